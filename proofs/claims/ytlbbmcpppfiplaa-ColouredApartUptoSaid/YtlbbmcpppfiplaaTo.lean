/-
  Texts on the way to the statement, one behind the other, without what it does not reach.
-/
import Derived.Test.YtlbbmcpppfiplaaTn
set_option linter.unusedSimpArgs false
set_option linter.unusedVariables false
set_option maxRecDepth 100000
/-
  LIVE: what is live behind each instruction, by the program.
-/
namespace Go.Proofs.Ytlbbmcpppfiplaa.Vc
open Go

/-! ### a row turned round -/
structure RevAt {α : Type} (l m : List α) (i : Nat) : Prop where
  len : m.length = l.length
  at_ : ∀ t, t < l.length → m[t]? = if t < i ∨ l.length ≤ t + i then l[l.length - 1 - t]? else l[t]?
theorem RevAt.first {α : Type} (l : List α) : RevAt l l 0 := ⟨rfl, fun t h => by rw [if_neg (by omega)]⟩
theorem RevAt.step {α : Type} {l m : List α} {i : Nat} {a b : α} (h : RevAt l m i) (hi : 2 * i + 1 < l.length) (ha : m[i]? = some a) (hb : m[l.length - 1 - i]? = some b) : RevAt l ((m.set i b).set (l.length - 1 - i) a) (i + 1) := by
  have ha' := h.at_ i (by omega)
  have hb' := h.at_ (l.length - 1 - i) (by omega)
  rw [if_neg (by omega)] at ha' hb'
  refine ⟨by simpa using h.len, fun t ht => ?_⟩
  rw [List.getElem?_set, List.length_set, h.len, List.getElem?_set, h.len]
  by_cases e1 : l.length - 1 - i = t
  · rw [if_pos e1, if_pos (by omega), if_pos (by omega), ← ha, ha']
    congr 1; omega
  · rw [if_neg e1]
    by_cases e2 : i = t
    · rw [if_pos e2, if_pos (by omega), if_pos (by omega), ← hb, hb']
      congr 1; omega
    · rw [if_neg e2, h.at_ t ht]
      by_cases e3 : t < i ∨ l.length ≤ t + i
      · rw [if_pos e3, if_pos (by omega)]
      · rw [if_neg e3, if_neg (by omega)]
theorem RevAt.done {α : Type} {l m : List α} {i : Nat} (h : RevAt l m i) (hi : l.length ≤ 2 * i + 1) : m = l.reverse := by
  refine List.ext_getElem? fun t => ?_
  by_cases ht : t < l.length
  · rw [List.getElem?_reverse ht, h.at_ t ht]
    by_cases e : t < i ∨ l.length ≤ t + i
    · rw [if_pos e]
    · rw [if_neg e]; congr 1; omega
  · rw [List.getElem?_eq_none (by rw [h.len]; omega), List.getElem?_eq_none (by rw [List.length_reverse]; omega)]
set_option maxHeartbeats 1000000 in
theorem Reverse_tri (l : List (List Int)) (v : Value) (S K : PH) (I : List Itm) (h : Held S K (orow 30 l v :: I)) (hl : l.length ≤ 4000000) :
    Tri Try.prog n_slices_Reverse_____int___int_ #[v] K fun x K' => x = .returned (.tuple #[]) ∧ Held S K' (orow 30 l.reverse v :: I) := by
  obtain ⟨b, c, rfl⟩ := (h.row (List.mem_cons_self ..)).sl
  refine tri_slices_Reverse_____int___int_ [.slice b l.length c] (by kernel_rfl) (by kernel_rfl) ?_
  refine ⟨fun n vs K' => ∃ (i : Nat) (m : List (List Int)), vs = [nI i, .int .i64 ((l.length : Int) - 1 - i)] ∧ n = l.length - i ∧ i ≤ l.length ∧ RevAt l m i ∧ Held S K' (orow 30 m (.slice b l.length c) :: I), ⟨_, 0, l, ?_, rfl, by omega, RevAt.first l, h⟩, ?_⟩
  · simp only [ev0, ev, evV, List.cons_append, List.nil_append, List.getD_cons_zero, List.getD_cons_succ, List.map_cons, List.map_nil, iOf, bOf, sOf, pOf, slLen, slBase, cmpI, arI, Value.ite_bool, int_beq, int_bne, ite_band, ite_bor]
    rw [w64 (by omega) (by omega)]
    simp
  rintro n vs K1 _ ⟨i, m, rfl, rfl, hil, hr, h1⟩
  refine ⟨fun g => ?_, fun g => ?_⟩
  · simp only [ev0, ev, evV, List.cons_append, List.nil_append, List.getD_cons_zero, List.getD_cons_succ, List.map_cons, List.map_nil, iOf, bOf, sOf, pOf, slLen, slBase, cmpI, arI, Value.ite_bool, int_beq, int_bne, ite_band, ite_bor, decide_eq_true_eq] at g
    have hi2 : 2 * i + 1 < l.length := by omega
    obtain ⟨k, hk⟩ : ∃ k : Nat, (l.length : Int) - 1 - i = (k : Int) := ⟨l.length - 1 - i, by omega⟩
    have hk' : k = l.length - 1 - i := by omega
    rw [hk]
    obtain ⟨a, ha⟩ : ∃ a, m[i]? = some a := ⟨_, List.getElem?_eq_getElem (by rw [hr.len]; omega)⟩
    obtain ⟨z, hz⟩ : ∃ z, m[k]? = some z := ⟨_, List.getElem?_eq_getElem (by rw [hr.len]; omega)⟩
    obtain ⟨a1, _, acs, a2, a3⟩ := (h1.row (List.mem_cons_self ..)).get ha
    obtain ⟨z1, _, zcs, z2, z3⟩ := (h1.row (List.mem_cons_self ..)).get hz
    obtain ⟨av, rfl, a4⟩ := csLK a2
    obtain ⟨zv, rfl, z4⟩ := csLK z2
    have a4' := a4
    have z4' := z4
    obtain ⟨ab, ac, rfl⟩ := a4'.sl
    obtain ⟨zb, zc, rfl⟩ := z4'.sl
    refine ⟨fun _ => ?_, [.slice zb z.length zc], rfl, ?_, fun _ => ?_, [.slice ab a.length ac], rfl, ?_, ?_⟩
    · simp only [Chk.holds, ev0, ev, evV, List.cons_append, List.nil_append, List.getD_cons_zero, List.getD_cons_succ, List.map_cons, List.map_nil, iOf, bOf, sOf, pOf, slLen, slBase, cmpI, arI, Value.ite_bool, int_beq, int_bne, ite_band, ite_bor]; exact ⟨z1, by omega, by omega⟩
    · simp only [ev0, ev, evV, List.cons_append, List.nil_append, List.getD_cons_zero, List.getD_cons_succ, List.map_cons, List.map_nil, iOf, bOf, sOf, pOf, slLen, slBase, cmpI, arI, Value.ite_bool, int_beq, int_bne, ite_band, ite_bor]; exact z3
    · simp only [Chk.holds, ev0, ev, evV, List.cons_append, List.nil_append, List.getD_cons_zero, List.getD_cons_succ, List.map_cons, List.map_nil, iOf, bOf, sOf, pOf, slLen, slBase, cmpI, arI, Value.ite_bool, int_beq, int_bne, ite_band, ite_bor]; exact ⟨a1, by omega, by omega⟩
    · simp only [ev0, ev, evV, List.cons_append, List.nil_append, List.getD_cons_zero, List.getD_cons_succ, List.map_cons, List.map_nil, iOf, bOf, sOf, pOf, slLen, slBase, cmpI, arI, Value.ite_bool, int_beq, int_bne, ite_band, ite_bor]; exact a3
    refine den_hPutZ (i := i) (a := a) (a' := z) (us := [.slice zb z.length zc]) ?_ h1 ha rfl ?_ (by simp [oneC]) (csLK_mk z4) fun K2 h2 => ?_
    · simp only [ev0, ev, evV, List.cons_append, List.nil_append, List.getD_cons_zero, List.getD_cons_succ, List.map_cons, List.map_nil, iOf, bOf, sOf, pOf, slLen, slBase, cmpI, arI, Value.ite_bool, int_beq, int_bne, ite_band, ite_bor]; rfl
    · simp only [ev0, ev, evV, List.cons_append, List.nil_append, List.getD_cons_zero, List.getD_cons_succ, List.map_cons, List.map_nil, iOf, bOf, sOf, pOf, slLen, slBase, cmpI, arI, Value.ite_bool, int_beq, int_bne, ite_band, ite_bor]
    have hz' : (m.set i z)[k]? = some z := by
      rw [List.getElem?_set, if_neg (by omega)]; exact hz
    refine den_hPutZ (i := k) (a := z) (a' := a) (us := [.slice ab a.length ac]) ?_ h2 hz' rfl ?_ (by simp [oneC]) (csLK_mk a4) fun K3 h3 => ?_
    · simp only [ev0, ev, evV, List.cons_append, List.nil_append, List.getD_cons_zero, List.getD_cons_succ, List.map_cons, List.map_nil, iOf, bOf, sOf, pOf, slLen, slBase, cmpI, arI, Value.ite_bool, int_beq, int_bne, ite_band, ite_bor]; rfl
    · simp only [ev0, ev, evV, List.cons_append, List.nil_append, List.getD_cons_zero, List.getD_cons_succ, List.map_cons, List.map_nil, iOf, bOf, sOf, pOf, slLen, slBase, cmpI, arI, Value.ite_bool, int_beq, int_bne, ite_band, ite_bor]
    refine ⟨_, lookup_hit, l.length - (i + 1), by omega, i + 1, (m.set i z).set k a, ?_, rfl, by omega, ?_, h3⟩
    · simp only [ev0, ev, evV, List.cons_append, List.nil_append, List.getD_cons_zero, List.getD_cons_succ, List.map_cons, List.map_nil, iOf, bOf, sOf, pOf, slLen, slBase, cmpI, arI, Value.ite_bool, int_beq, int_bne, ite_band, ite_bor]
      rw [w64 (by omega) (by omega), w64 (by omega) (by omega)]
      congr 2
      congr 1
      omega
    · subst hk'; exact hr.step hi2 ha hz
  · simp only [ev0, ev, evV, List.cons_append, List.nil_append, List.getD_cons_zero, List.getD_cons_succ, List.map_cons, List.map_nil, iOf, bOf, sOf, pOf, slLen, slBase, cmpI, arI, Value.ite_bool, int_beq, int_bne, ite_band, ite_bor, decide_eq_false_iff_not] at g
    have := hr.done (by omega)
    subst this
    exact ⟨rfl, h1⟩

/-! ### behind -/
/-- what stands in the row after so many rounds -/
noncomputable def backL (p : PrcX) (i n j : Nat) : List (List Int) := (List.range j).map fun t => liveL p i (n - t)
theorem backL_all (p : PrcX) (i : Nat) (b : BlkX) : (backL p i b.ins.length b.ins.length).reverse = behL p i b := by
  unfold backL behL
  refine List.ext_getElem? fun t => ?_
  by_cases ht : t < b.ins.length
  · rw [List.getElem?_reverse (by simpa using ht), List.length_map, List.length_range, List.getElem?_map, List.getElem?_map, List.getElem?_range (by omega), List.getElem?_range ht]
    simp only [Option.map_some]
    congr 2; omega
  · rw [List.getElem?_eq_none (by simp; omega), List.getElem?_eq_none (by simp; omega)]
theorem outS_live {p : PrcX} {sets : Nat → List Int} (hmem : ∀ c y, c < p.blocks.length → (y ∈ sets c ↔ LiveB p y c)) (b : BlkX) (y : Int) : outS p sets b y ↔ endLive b.e p.blocks.length y (LiveB p y) := by
  unfold outS endLive
  constructor
  · rintro (h | ⟨h1, c, h2, h3⟩)
    · exact .inl h
    · have hc : c < p.blocks.length := by have := (List.mem_filter.1 h2).2; simp at this; omega
      exact .inr ⟨h1, c, h2, (hmem c y hc).1 h3⟩
  · rintro (h | ⟨h1, c, h2, h3⟩)
    · exact .inl h
    · have hc : c < p.blocks.length := by have := (List.mem_filter.1 h2).2; simp at this; omega
      exact .inr ⟨h1, c, h2, (hmem c y hc).2 h3⟩
theorem thru_live {p : PrcX} {sets : Nat → List Int} (hmem : ∀ c y, c < p.blocks.length → (y ∈ sets c ↔ LiveB p y c)) {i : Nat} {b : BlkX} (hb : p.blocks[i]? = some b) (k : Nat) (y : Int) : thru y (b.ins.drop k) (outS p sets b y) ↔ LiveAt p y i k := by
  constructor
  · exact fun h => ⟨b, hb, thru_mono (outS_live hmem b y).1 h⟩
  · rintro ⟨b', hb', h⟩
    rw [hb] at hb'; cases hb'
    exact thru_mono (outS_live hmem b y).2 h
set_option maxHeartbeats 4000000 in
theorem LBehind_tri (p : PrcX) (bv : Value) (block : Int) (S : PH) (hbv : SlR S p.blocks bv) (hp : p.Fit) (hE : ∀ b ∈ p.blocks, b.e.args.length ≤ 2000000) :
    Tri Try.prog n_live_Behind #[.agg (prcVs p bv).toArray, .int .i64 block] S fun x S' => PH.le S S' ∧ ∃ v, x = .returned v ∧ SlR S' (behindL p block) v := by
  have hN := hp.n
  have hbv0 := hbv
  obtain ⟨b0, c0, rfl⟩ := hbv.sl
  refine tri_live_Behind (prcVs p (.slice b0 p.blocks.length c0) ++ [.int .i64 block]) (by kernel_rfl) (by kernel_rfl) ?_
  simp only [prcVs, List.cons_append, List.nil_append]
  refine ⟨fun g => ?_, fun g => ?_⟩
  · simp only [ev0, ev, evV, List.cons_append, List.nil_append, List.getD_cons_zero, List.getD_cons_succ, List.map_cons, List.map_nil, iOf, bOf, sOf, pOf, slLen, slBase, cmpI, arI, Value.ite_bool, int_beq, int_bne, ite_band, ite_bor] at g
    simp only [Bool.or_eq_true, decide_eq_true_eq] at g
    refine ⟨PH.le_refl S, _, rfl, ?_⟩
    have : behindL p block = [] := by
      unfold behindL
      by_cases h0 : block < 0
      · rw [if_pos h0]
      · rw [if_neg h0, List.getElem?_eq_none (by omega)]
    rw [this]
    exact nil_slR S
  simp only [ev0, ev, evV, List.cons_append, List.nil_append, List.getD_cons_zero, List.getD_cons_succ, List.map_cons, List.map_nil, iOf, bOf, sOf, pOf, slLen, slBase, cmpI, arI, Value.ite_bool, int_beq, int_bne, ite_band, ite_bor] at g
  simp only [Bool.or_eq_false_iff, decide_eq_false_iff_not] at g
  obtain ⟨i, rfl⟩ : ∃ i : Nat, block = (i : Int) := ⟨block.toNat, by omega⟩
  have hi : i < p.blocks.length := by omega
  obtain ⟨b, hb⟩ : ∃ b, p.blocks[i]? = some b := ⟨_, List.getElem?_eq_getElem hi⟩
  have hbe : behindL p (i : Int) = behL p i b := by
    unfold behindL
    rw [if_neg (by omega), Int.toNat_natCast, hb]
  rw [hbe]
  have hbl := hp.ins b (List.mem_of_getElem? hb)
  refine den_call cb_live_solved (solved_tri p (.slice b0 p.blocks.length c0) S hbv hp hE) ?_
  rintro x K1 ⟨fb, ib, ims, sets, Sf, lf, rfl, h1, hil, him, hnd, hmem⟩
  refine ⟨_, [pAt fb], rfl, rfl, rfl, pendNil, ?_⟩
  refine den_call cb_live_flow__out (out_tri p _ fb ib ims sets i b Sf K1 (hbv.le lf) hb hN (Nat.le_trans (hE b (List.mem_of_getElem? hb)) (by omega)) hil (fun c v h => (him c v h).1) h1) ?_
  rintro x K2 ⟨S2, ro, es2, cl2, s2, l2, rfl, h2, hs2, hm2⟩
  refine ⟨_, [.map (some ro)], rfl, rfl, rfl, pendNil, ?_⟩
  refine den_bxNew (vs := [.map none]) h2 (by kernel_rfl) fun sb K3 _ h3 => ?_
  refine den_bxStore (off := 0) (vs := [.map (some ro)]) (by kernel_rfl) h3 (by kernel_rfl) (by simp [oneC]) (by simp) fun K4 h4 => ?_
  have h4 : Held S2 K4 [bx sb 65 [.map (some ro)], .blk ro (.map es2 cl2), flowB fb p (.slice b0 p.blocks.length c0) (.slice (some ⟨ib, 0, none⟩) p.blocks.length p.blocks.length), inB ib ims] := h4
  refine den_bxNew (vs := [.slice none 0 0]) (h4.sub (J := [bx sb 65 [.map (some ro)], .blk ro (.map es2 cl2)]) ((List.sublist_append_left [bx sb 65 [.map (some ro)], .blk ro (.map es2 cl2)] _))) (by kernel_rfl) fun ob K5 _ h5 => ?_
  have h5 := h5.empty (α := List Int) 30
  obtain ⟨q1, _, ces, q2, q3⟩ := (hbv.le (PH.le_trans lf l2)).get hb
  obtain ⟨iv, esv, rfl, his, hes⟩ := blk_iff.1 q2
  obtain ⟨b2, c2, rfl⟩ := his.sl
  refine ⟨fun _ => ?_, [.slice b2 b.ins.length c2], rfl, ?_, ?_⟩
  · simp only [Chk.holds, ev0, ev, evV, List.cons_append, List.nil_append, List.getD_cons_zero, List.getD_cons_succ, List.map_cons, List.map_nil, iOf, bOf, sOf, pOf, slLen, slBase, cmpI, arI, Value.ite_bool, int_beq, int_bne, ite_band, ite_bor]; exact ⟨q1, by omega, by omega⟩
  · simp only [ev0, ev, evV, List.cons_append, List.nil_append, List.getD_cons_zero, List.getD_cons_succ, List.map_cons, List.map_nil, iOf, bOf, sOf, pOf, slLen, slBase, cmpI, arI, Value.ite_bool, int_beq, int_bne, ite_band, ite_bor]; exact rowAt_sub (rowAt_le h5.sh q3) 0 1
  refine den_call cb_slices_Backward___api_Ins_api_Ins_ (h5.pure (R := fun x S' => ∃ q : Nat, x = .returned (.func (.func 57) #[] #[.pointer (some ⟨q, 0, none⟩)]) ∧ rowAt S' (some ⟨q, 0, none⟩) [.slice b2 b.ins.length c2]) ((Backward_tri b.ins _ S2 his).mono fun x S' ⟨q, t1, t2, t3⟩ => ⟨t1, q, t2, t3⟩)) ?_
  rintro x K9 ⟨S9, l9, h9, q, rfl, hq⟩
  refine ⟨_, [.func (.func 57) #[] #[.pointer (some ⟨q, 0, none⟩)]], rfl, rfl, rfl, pendNil, ?_⟩
  obtain ⟨cells, hcells⟩ := (his.le l9).fn
  have hc8 : ∀ j', j' < b.ins.length → (cells (b.ins.length - 1 - j')).length = 8 := fun j' hj' => by
    obtain ⟨y, hy⟩ : ∃ y, b.ins[b.ins.length - 1 - j']? = some y := ⟨_, List.getElem?_eq_getElem (by omega)⟩
    have := (hcells _ y hy).1
    exact PV.RepRow.length this
  refine ⟨S9, b.ins.length, fun j' => nI (b.ins.length - 1 - j') :: cells (b.ins.length - 1 - j'), fun j' H' => ∃ (es : Array MapEntry) (cl : Nat) (s : List Int) (v : Value) (S' : PH), PH.le S9 S' ∧ Held S' H' [orow 30 (backL p i b.ins.length j') v, bx ob 27 [v], bx sb 65 [.map (some ro)], .blk ro (.map es cl)] ∧ SetAt es cl s ∧ ∀ y, y ∈ s ↔ thru y (b.ins.drop (b.ins.length - j')) (outS p sets b y), h9.sh, ?_, ?_, ?_, ?_, ?_⟩
  · refine Iter.congr (fun j' hj' => ?_) (backward_iter b.ins S9 _ _ hq (his.le l9) (by omega) cells hcells)
    have := hc8 j' hj'
    simp [packAll, RS.pack, RS.tags, List.take_of_length_le, this]
  · rintro j' H' ⟨es, cl, s, v, S', l', hh, _⟩; exact PH.le_trans l' hh.sh
  · exact ⟨es2, cl2, s2, .slice none 0 0, S9, PH.le_refl _, by simpa [backL] using h9, hs2, fun y => by rw [Nat.sub_zero, List.drop_length]; exact hm2 y⟩
  · rintro j' H' hj' ⟨es, cl, s, v, S', l', hh, hs, hm⟩
    obtain ⟨y, hy⟩ : ∃ y, b.ins[b.ins.length - 1 - j']? = some y := ⟨_, List.getElem?_eq_getElem (by omega)⟩
    obtain ⟨hyc, _⟩ := hcells _ y hy
    have hyc' := hyc
    obtain ⟨av, dv, hcell, _, _, hya, _, _, _, hyd, _⟩ := ins_iff.1 hyc
    obtain ⟨ab, ac, rfl⟩ := hya.sl
    obtain ⟨db, dc, rfl⟩ := hyd.sl
    simp only [hcell]
    rw [hcell] at hyc'
    obtain ⟨vb, vc, rfl⟩ := (hh.row (List.mem_cons_self ..)).sl
    have hml : ∀ z, z ∈ s ↔ LiveAt p z i (b.ins.length - j') := fun z => by rw [hm, thru_live hmem hb]
    have hreg : ∀ z ∈ s, z ∈ p.regl := fun z hz => live_regl ((hml z).1 hz)
    have hbk : (backL p i b.ins.length j').length = j' := by simp [backL]
    refine ⟨rfl, ?_⟩
    refine den_bxLoad [.slice vb (backL p i b.ins.length j').length vc] (off := 0) (by kernel_rfl) hh (List.mem_cons_of_mem _ (List.mem_cons_self ..)) rfl rfl ?_
    refine den_bxLoad [.map (some ro)] (off := 0) (by kernel_rfl) hh (List.mem_cons_of_mem _ (List.mem_cons_of_mem _ (List.mem_cons_self ..))) rfl rfl ?_
    refine den_call cb_live_set_int___rising (rising_tri ro es cl s S' H' _ hh (.inr (by simp)) hs (fun z hz => regl_InI hbv0 z (hreg z hz)) (Nat.le_trans (set_len hp hs.nodup hreg) (by omega))) ?_
    rintro x K10 ⟨S10, wv, l10, rfl, hwv, h10⟩
    rw [sort_liveAt hs.nodup hml] at hwv
    obtain ⟨b3, c3, rfl⟩ := hwv.sl
    refine ⟨_, [.slice b3 (liveL p i (b.ins.length - j')).length c3], rfl, rfl, rfl, ?_, ?_⟩
    · intro x hx
      rw [List.mem_singleton.1 hx]
      exact bx_row h10 (List.mem_cons_of_mem _ (List.mem_cons_self ..)) 0 1
    have hst : backL p i b.ins.length (j' + 1) = backL p i b.ins.length j' ++ [liveL p i (b.ins.length - j')] := by unfold backL; rw [List.range_succ, List.map_append]; rfl
    refine den_hPush (more := [liveL p i (b.ins.length - j')]) (b := 24) [.slice b3 (liveL p i (b.ins.length - j')).length c3] uIntssK elemIntsK rfl (by decide) (by decide) h10 (by kernel_rfl) (.cons (csLK_mk hwv) .nil) ?_ (fun _ => by kernel_rfl) (fun _ => by kernel_rfl)
      (by rw [hbk]; simp only [maxLen, List.length_cons, List.length_nil]; omega) (by rw [hbk]; simp only [List.length_cons, List.length_nil]; omega) fun u v' S11 K11 l11 h11 => ⟨pendNil, ?_⟩
    · intro x hx
      rw [List.mem_singleton.1 hx]
      exact bx_row h10 (List.mem_cons_of_mem _ (List.mem_cons_self ..)) 0 1
    rw [← hst] at h11
    obtain ⟨vb', vc', rfl⟩ := (h11.row (List.mem_cons_self ..)).sl
    refine den_bxStore (off := 0) (vs := [.slice vb' (backL p i b.ins.length (j' + 1)).length vc']) (by kernel_rfl) (h11.perm (List.Perm.swap _ _ _)) (by kernel_rfl) (by simp [oneC]) (by simp) fun K12 h12 => ?_
    have h12 : Held S11 K12 [bx ob 27 [.slice vb' (backL p i b.ins.length (j' + 1)).length vc'], orow 30 (backL p i b.ins.length (j' + 1)) (.slice vb' (backL p i b.ins.length (j' + 1)).length vc'), bx sb 65 [.map (some ro)], .blk ro (.map es cl)] := h12
    refine den_bxLoad [.map (some ro)] (off := 0) (by kernel_rfl) h12 (List.mem_cons_of_mem _ (List.mem_cons_of_mem _ (List.mem_cons_self ..))) rfl rfl ?_
    have hperm : [bx ob 27 [.slice vb' (backL p i b.ins.length (j' + 1)).length vc'], orow 30 (backL p i b.ins.length (j' + 1)) (.slice vb' (backL p i b.ins.length (j' + 1)).length vc'), bx sb 65 [.map (some ro)], .blk ro (.map es cl)].Perm ([.blk ro (.map es cl)] ++ [orow 30 (backL p i b.ins.length (j' + 1)) (.slice vb' (backL p i b.ins.length (j' + 1)).length vc'), bx ob 27 [.slice vb' (backL p i b.ins.length (j' + 1)).length vc'], bx sb 65 [.map (some ro)]]) := by
      refine (List.Perm.swap _ _ _).trans ?_
      exact (List.perm_append_comm (l₁ := [orow 30 (backL p i b.ins.length (j' + 1)) (.slice vb' (backL p i b.ins.length (j' + 1)).length vc'), bx ob 27 [.slice vb' (backL p i b.ins.length (j' + 1)).length vc'], bx sb 65 [.map (some ro)]]) (l₂ := [.blk ro (.map es cl)]))
    have lS : PH.le S' S11 := PH.le_trans l10 l11
    refine den_call cb_live_through (Held.call (P := Try.prog) (f := n_live_through) (args := #[.map (some ro), .agg (List.toArray _)]) (J := [.blk ro (.map es cl)]) (I := [orow 30 (backL p i b.ins.length (j' + 1)) (.slice vb' (backL p i b.ins.length (j' + 1)).length vc'), bx ob 27 [.slice vb' (backL p i b.ins.length (j' + 1)).length vc'], bx sb 65 [.map (some ro)]])
      (R := fun e S'' J' => S'' = S11 ∧ ∃ es' cl' s', e = .returned (.tuple #[]) ∧ J' = [.blk ro (.map es' cl')] ∧ SetAt es' cl' s' ∧ ∀ z, z ∈ s' ↔ (z ∈ y.args ∨ (¬ y.fills z ∧ z ∈ s))) (h12.perm hperm)
      (fun K' hK => (through_tri ro es cl s y _ S11 K' (PV.RepRow.le (PH.le_trans l' lS) hyc') hK hs).mono fun e K'' ⟨es', cl', s', t1, t2, t3, t4⟩ => ⟨S11, _, PH.le_refl _, t2, rfl, es', cl', s', t1, rfl, t3, t4⟩)) ?_
    rintro e K'' ⟨S'', J', _, hh', rfl, es', cl', s', rfl, rfl, hs', hm'⟩
    refine ⟨_, [], rfl, rfl, rfl, pendNil, _, lookup_hit, es', cl', s', .slice vb' (backL p i b.ins.length (j' + 1)).length vc', S'', PH.le_trans l' lS, hh'.perm ?_, hs', fun z => ?_⟩
    · exact List.perm_append_comm (l₁ := [.blk ro (.map es' cl')]) (l₂ := [orow 30 (backL p i b.ins.length (j' + 1)) (.slice vb' (backL p i b.ins.length (j' + 1)).length vc'), bx ob 27 [.slice vb' (backL p i b.ins.length (j' + 1)).length vc'], bx sb 65 [.map (some ro)]])
    · rw [hm', hm, thru_step hj' hy]
  · rintro H' ⟨es, cl, s, v, S', l', hh, hs, hm⟩
    obtain ⟨vb, vc, rfl⟩ := (hh.row (List.mem_cons_self ..)).sl
    have hbk : (backL p i b.ins.length b.ins.length).length = b.ins.length := by simp [backL]
    refine den_bxLoad [.slice vb (backL p i b.ins.length b.ins.length).length vc] (off := 0) (by kernel_rfl) hh (List.mem_cons_of_mem _ (List.mem_cons_self ..)) rfl rfl ?_
    refine den_call cb_slices_Reverse_____int___int_ (Reverse_tri _ _ S' H' _ hh (by rw [hbk]; omega)) ?_
    rintro x K13 ⟨rfl, h13⟩
    refine ⟨_, [], rfl, rfl, rfl, pendNil, ?_⟩
    refine den_bxLoad [.slice vb (backL p i b.ins.length b.ins.length).length vc] (off := 0) (by kernel_rfl) h13 (List.mem_cons_of_mem _ (List.mem_cons_self ..)) rfl rfl ?_
    rw [backL_all] at h13
    obtain ⟨S14, s14, l14, h14⟩ := h13.freeze
    exact ⟨PH.le_trans lf (PH.le_trans l2 (PH.le_trans l9 (PH.le_trans l' (PH.le_trans l14 h14.sh)))), _, rfl, s14.le h14.sh⟩
end Go.Proofs.Ytlbbmcpppfiplaa.Vc
/-
  LIVE: functions that come in; the fixed calls; LivingTells, LivingBehind.
-/
namespace Go.Proofs.Ytlbbmcpppfiplaa.Vc
open Go Go.ChangeShapes Go.WideShapes Go.ChangeAt Go.RowKit

/-! ### what comes in -/
noncomputable def insFields : Array Field := match Try.prog.underlying 43 with
  | some (.struct fs) => fs
  | _ => #[]
theorem uInsS : Try.prog.underlying 43 = some (.struct insFields) := by kernel_rfl
theorem insF : insFields.toList.map (fun f => (f.type, f.offset)) = [(9, 0), (3, 1), (30, 2), (41, 3), (3, 7)] := by kernel_rfl
theorem cInsC : Try.prog.cellsOf 43 = 8 := by kernel_rfl
noncomputable def endFields : Array Field := match Try.prog.underlying 36 with
  | some (.struct fs) => fs
  | _ => #[]
theorem uEndS : Try.prog.underlying 36 = some (.struct endFields) := by kernel_rfl
theorem endF : endFields.toList.map (fun f => (f.type, f.offset)) = [(3, 0), (3, 1), (30, 2), (3, 3), (3, 4), (3, 5)] := by kernel_rfl
theorem cEndC : Try.prog.cellsOf 36 = 6 := by kernel_rfl
noncomputable def blkFields : Array Field := match Try.prog.underlying 38 with
  | some (.struct fs) => fs
  | _ => #[]
theorem uBlkS : Try.prog.underlying 38 = some (.struct blkFields) := by kernel_rfl
theorem blkF : blkFields.toList.map (fun f => (f.type, f.offset)) = [(34, 0), (36, 1)] := by kernel_rfl
theorem cBlkC : Try.prog.cellsOf 38 = 7 := by kernel_rfl
noncomputable def prcFields : Array Field := match Try.prog.underlying 24 with
  | some (.struct fs) => fs
  | _ => #[]
theorem uPrcS : Try.prog.underlying 24 = some (.struct prcFields) := by kernel_rfl
theorem prcF : prcFields.toList.map (fun f => (f.type, f.offset)) = [(3, 0), (3, 1), (3, 2), (22, 3)] := by kernel_rfl
theorem cPrcC : Try.prog.cellsOf 24 = 4 := by kernel_rfl
theorem cIntsC : Try.prog.cellsOf 30 = 1 := by kernel_rfl
theorem cInssC : Try.prog.cellsOf 34 = 1 := by kernel_rfl
theorem cBlksC : Try.prog.cellsOf 22 = 1 := by kernel_rfl
theorem opens_ins {H : Type} {enc : TypeId × Value → H} {w : World} (fuel : Nat) : Opens (α := InsX) enc Try.prog w InsX.wt 43 fuel := by
  intro cs d ps h
  obtain ⟨xs, n, rfl, rfl, hc, hl, hi⟩ := trod_fields uInsS insF h
  rw [cInsC] at hc
  match xs, hl with
  | [x0, x1, x2, x3, x4], _ =>
  match cs, hc with
  | [c0, c1, c2, c3, c4, c5, c6, c7], _ =>
  have t0 := hi 0 9 0 x0 rfl rfl
  have t1 := hi 1 3 1 x1 rfl rfl
  have t2 := hi 2 30 2 x2 rfl rfl
  have t3 := hi 3 41 3 x3 rfl rfl
  have t4 := hi 4 3 7 x4 rfl rfl
  rw [cStr] at t0
  rw [cInt] at t1 t4
  rw [cIntsC] at t2
  rw [cDat] at t3
  obtain ⟨s, hs, hsw⟩ := opens_txt uString n _ _ _ t0
  obtain ⟨k, hk, hkw⟩ := opens_int uInt n _ _ _ t1
  obtain ⟨l, v, hlv, hls, hlw⟩ := opens_slice (α := Int) (wt := fun _ => 1) uIntsK cInt (fun j hj => opens_int uInt j) t2
  obtain ⟨dd, hd, hdw⟩ := opens_dat n _ _ _ t3
  obtain ⟨m, hm, hmw⟩ := opens_int uInt n _ _ _ t4
  have hv : c2 = v := by simpa using hlv
  subst hv
  obtain ⟨rfl, hs1⟩ := csTxt hs
  obtain ⟨rfl, hk1⟩ := csInt hk
  obtain ⟨rfl, hm1⟩ := csInt hm
  obtain ⟨dv, hdv, hd1, hd2, hd3, hd4⟩ := Dat.Rep_iff.1 hd
  simp only [List.take_succ_cons, List.take_zero, List.drop_succ_cons, List.drop_zero, List.cons.injEq, and_true] at hdv
  obtain ⟨rfl, rfl, rfl, rfl⟩ := hdv
  refine ⟨⟨s, k, l, dd, m⟩, ins_iff.2 ⟨_, _, rfl, hs1, hk1, hls, hd1, hd2, hd3, hd4, hm1⟩, ?_⟩
  simp only at hkw hmw hsw hdw
  simp only [InsX.wt, intsWt, Rows.uptoBulk, Rows.uptoBulkAll, List.map_cons, List.map_nil]
  omega
theorem opens_end {H : Type} {enc : TypeId × Value → H} {w : World} (fuel : Nat) : Opens (α := EndX) enc Try.prog w EndX.wt 36 fuel := by
  intro cs d ps h
  obtain ⟨xs, n, rfl, rfl, hc, hl, hi⟩ := trod_fields uEndS endF h
  rw [cEndC] at hc
  match xs, hl with
  | [x0, x1, x2, x3, x4, x5], _ =>
  match cs, hc with
  | [c0, c1, c2, c3, c4, c5], _ =>
  have t0 := hi 0 3 0 x0 rfl rfl
  have t1 := hi 1 3 1 x1 rfl rfl
  have t2 := hi 2 30 2 x2 rfl rfl
  have t3 := hi 3 3 3 x3 rfl rfl
  have t4 := hi 4 3 4 x4 rfl rfl
  have t5 := hi 5 3 5 x5 rfl rfl
  rw [cInt] at t0 t1 t3 t4 t5
  rw [cIntsC] at t2
  obtain ⟨k0, hk0, w0⟩ := opens_int uInt n _ _ _ t0
  obtain ⟨k1, hk1, w1⟩ := opens_int uInt n _ _ _ t1
  obtain ⟨l, v, hlv, hls, hlw⟩ := opens_slice (α := Int) (wt := fun _ => 1) uIntsK cInt (fun j hj => opens_int uInt j) t2
  obtain ⟨k3, hk3, w3⟩ := opens_int uInt n _ _ _ t3
  obtain ⟨k4, hk4, w4⟩ := opens_int uInt n _ _ _ t4
  obtain ⟨k5, hk5, w5⟩ := opens_int uInt n _ _ _ t5
  have hv : c2 = v := by simpa using hlv
  subst hv
  obtain ⟨rfl, h0⟩ := csInt hk0
  obtain ⟨rfl, h1⟩ := csInt hk1
  obtain ⟨rfl, h3⟩ := csInt hk3
  obtain ⟨rfl, h4⟩ := csInt hk4
  obtain ⟨rfl, h5⟩ := csInt hk5
  refine ⟨⟨k0, k1, l, k3, k4, k5⟩, end_iff.2 ⟨_, rfl, h0, h1, hls, h3, h4, h5⟩, ?_⟩
  simp only at w0 w1 w3 w4 w5
  simp only [EndX.wt, intsWt, Rows.uptoBulk, Rows.uptoBulkAll, List.map_cons, List.map_nil]
  omega
theorem opens_blk {H : Type} {enc : TypeId × Value → H} {w : World} (fuel : Nat) : Opens (α := BlkX) enc Try.prog w BlkX.wt 38 fuel := by
  intro cs d ps h
  obtain ⟨xs, n, rfl, rfl, hc, hl, hi⟩ := trod_fields uBlkS blkF h
  rw [cBlkC] at hc
  match xs, hl with
  | [x0, x1], _ =>
  match cs, hc with
  | [c0, c1, c2, c3, c4, c5, c6], _ =>
  have t0 := hi 0 34 0 x0 rfl rfl
  have t1 := hi 1 36 1 x1 rfl rfl
  rw [cInssC] at t0
  rw [cEndC] at t1
  obtain ⟨l, v, hlv, hls, hlw⟩ := opens_slice (α := InsX) (wt := InsX.wt) uInssK cInsC (fun j hj => opens_ins j) t0
  obtain ⟨e, he, hew⟩ := opens_end n _ _ _ t1
  have hv : c0 = v := by simpa using hlv
  subst hv
  refine ⟨⟨l, e⟩, blk_iff.2 ⟨_, _, rfl, hls, he⟩, ?_⟩
  simp only [BlkX.wt, Rows.uptoBulk, Rows.uptoBulkAll, List.map_cons, List.map_nil]
  omega
theorem opens_prc {H : Type} {enc : TypeId × Value → H} {w : World} (fuel : Nat) : Opens (α := PrcX) enc Try.prog w PrcX.wt 24 fuel := by
  intro cs d ps h
  obtain ⟨xs, n, rfl, rfl, hc, hl, hi⟩ := trod_fields uPrcS prcF h
  rw [cPrcC] at hc
  match xs, hl with
  | [x0, x1, x2, x3], _ =>
  match cs, hc with
  | [c0, c1, c2, c3], _ =>
  have t0 := hi 0 3 0 x0 rfl rfl
  have t1 := hi 1 3 1 x1 rfl rfl
  have t2 := hi 2 3 2 x2 rfl rfl
  have t3 := hi 3 22 3 x3 rfl rfl
  rw [cInt] at t0 t1 t2
  rw [cBlksC] at t3
  obtain ⟨k0, hk0, w0⟩ := opens_int uInt n _ _ _ t0
  obtain ⟨k1, hk1, w1⟩ := opens_int uInt n _ _ _ t1
  obtain ⟨k2, hk2, w2⟩ := opens_int uInt n _ _ _ t2
  obtain ⟨l, v, hlv, hls, hlw⟩ := opens_slice (α := BlkX) (wt := BlkX.wt) uBlksK cBlkC (fun j hj => opens_blk j) t3
  have hv : c3 = v := by simpa using hlv
  subst hv
  obtain ⟨rfl, h0⟩ := csInt hk0
  obtain ⟨rfl, h1⟩ := csInt hk1
  obtain ⟨rfl, h2⟩ := csInt hk2
  refine ⟨⟨k0, k1, k2, l⟩, prc_iff.2 ⟨_, rfl, h0, h1, h2, hls⟩, ?_⟩
  simp only at w0 w1 w2
  simp only [PrcX.wt, Rows.uptoBulk, Rows.uptoBulkAll, List.map_cons, List.map_nil]
  omega
/-- a function as an argument -/
theorem arg_prc {H : Type} {enc : TypeId × Value → H} {w : World} {v : Value} {d : DataW H} {p : List MemPlace} {r : Reach} {b : Nat} (hval : Value.okWide Try.prog w r b 24 v) (h : DataW.Trod enc Try.prog w 0 (fun _ => true) true 24 v d p) :
    ∃ (a : PrcX) (bv : Value), v = .agg (prcVs a bv).toArray ∧ SlR (whole w) a.blocks bv ∧ (InI a.params ∧ InI a.holds ∧ InI a.regs) ∧ a.wt ≤ Rows.uptoBulk d := by
  obtain ⟨cs, rfl, _⟩ := okWide_struct uPrcS hval
  obtain ⟨fuel, h⟩ := h
  obtain ⟨a, h1, h2⟩ := opens_prc fuel _ _ _ h
  obtain ⟨bv, hcs, i1, i2, i3, hb⟩ := prc_iff.1 h1
  refine ⟨a, bv, ?_, hb, ⟨i1, i2, i3⟩, h2⟩
  rw [show prcVs a bv = cs.toList from hcs.symm]
theorem arg_intK {H : Type} {enc : TypeId × Value → H} {w : World} {v : Value} {d : DataW H} {p : List MemPlace} {r : Reach} {b : Nat} (hval : Value.okWide Try.prog w r b 3 v) (h : DataW.Trod enc Try.prog w 0 (fun _ => true) true 3 v d p) :
    ∃ n : Int, v = .int .i64 n ∧ InI n := by
  obtain ⟨n, rfl, rfl, rfl, hw⟩ := open_int (k := .i64) (by kernel_rfl) hval h
  refine ⟨n, rfl, ?_⟩
  simpa [Lit.wf, IntKind.min, IntKind.max, IntKind.bits, IntKind.signed, InI] using hw

/-! ### sizes -/
theorem ints_wt : ∀ l : List Int, sumWt (fun _ => 1) l = l.length
  | [] => rfl
  | a :: l => by simp only [sumWt, List.length_cons, ints_wt l]; omega
theorem sumWt_mem {α : Type} (f : α → Nat) : ∀ {l : List α} {a : α}, a ∈ l → f a ≤ sumWt f l
  | b :: l, a, h => by
    simp only [sumWt]
    rcases List.mem_cons.1 h with rfl | h
    · omega
    · have := sumWt_mem f h; omega
theorem sumWt_len1 {α : Type} (f : α → Nat) (hf : ∀ a, 1 ≤ f a) : ∀ l : List α, l.length ≤ sumWt f l
  | [] => Nat.le_refl _
  | a :: l => by
    have := sumWt_len1 f hf l
    have := hf a
    simp only [sumWt, List.length_cons]; omega
theorem flatMap_wt {α : Type} (f : α → Nat) (g : α → List Int) (h : ∀ a, (g a).length ≤ f a) : ∀ l : List α, (l.flatMap g).length ≤ sumWt f l
  | [] => Nat.le_refl _
  | a :: l => by
    have := flatMap_wt f g h l
    have := h a
    simp only [sumWt, List.flatMap_cons, List.length_append]; omega
theorem InsX.args_wt (x : InsX) : x.args.length + 1 ≤ x.wt := by
  unfold InsX.wt intsWt; rw [ints_wt]; omega
theorem EndX.regs_wt (e : EndX) : e.regs.length ≤ e.wt := by
  unfold EndX.wt intsWt EndX.regs; rw [ints_wt, List.length_append]
  have h1 : (if e.reads e.reg = true then [e.reg] else []).length ≤ 1 := by split <;> simp
  have h2 : (if e.kind = 3 ∨ e.kind = 4 then e.args else []).length ≤ e.args.length := by split <;> simp
  omega
theorem BlkX.regs_wt (b : BlkX) : b.regs.length ≤ b.wt := by
  have h1 := flatMap_wt InsX.wt (·.args) (fun x => by have := x.args_wt; omega) b.ins
  have h2 := b.e.regs_wt
  unfold BlkX.regs BlkX.wt
  rw [List.length_append]; omega
theorem PrcX.fit_wt {p : PrcX} (h : p.wt ≤ 1048576) : p.Fit ∧ ∀ b ∈ p.blocks, b.e.args.length ≤ 2000000 := by
  unfold PrcX.wt at h
  have h1 : ∀ b : BlkX, 1 ≤ b.wt := fun b => by unfold BlkX.wt; omega
  refine ⟨⟨?_, fun b hb => ?_, ?_⟩, fun b hb => ?_⟩
  · have := sumWt_len1 BlkX.wt h1 p.blocks; omega
  · have h2 := sumWt_mem BlkX.wt hb
    have h3 := sumWt_len1 InsX.wt (fun x => by have := x.args_wt; omega) b.ins
    have h4 : b.wt = sumWt InsX.wt b.ins + 1 + b.e.wt := rfl
    omega
  · have := flatMap_wt BlkX.wt BlkX.regs BlkX.regs_wt p.blocks
    unfold PrcX.regl; omega
  · have h2 := sumWt_mem BlkX.wt hb
    have h4 : b.wt = sumWt InsX.wt b.ins + 1 + b.e.wt := rfl
    have h5 : b.e.wt = 1 + 1 + (sumWt (fun _ => 1) b.e.args + 1) + 1 + 1 + 1 := rfl
    rw [ints_wt] at h5; omega

/-! ### the fixed calls -/
theorem fx_list {p : PrcX} {i a : Nat} {l : List Int} (hl : l.Pairwise (· < ·)) (h : ∀ x, LiveAt p x i a ↔ x ∈ l) : liveL p i a = l :=
  rises_eq (liveL_rises p i a) hl fun x => by rw [liveL_mem, h]
/-! ### the laws -/
end Go.Proofs.Ytlbbmcpppfiplaa.Vc
/-
  LIVE: LivingBack.
-/
namespace Go.Proofs.Ytlbbmcpppfiplaa.Vc
open Go

instance decFills (x : InsX) (r : Int) : Decidable (x.fills r) := by unfold InsX.fills; exact inferInstance
theorem lookup_skip {n m : Nat} {J J' : List Value → PH → Prop} {L : LK} (h : (n == m) = false) (hl : L.lookup n = some J) : ((m, J') :: L).lookup n = some J := by simp [List.lookup, h, hl]
theorem inL_get {p : PrcX} {i : Nat} (hi : i < p.blocks.length) : (inL p)[i]? = some (liveL p i 0) := by
  unfold inL
  rw [List.getElem?_map, List.getElem?_range hi]; rfl
theorem behL_get {p : PrcX} {i k : Nat} {b : BlkX} (hk : k < b.ins.length) : (behL p i b)[k]? = some (liveL p i (k + 1)) := by
  unfold behL
  rw [List.getElem?_map, List.getElem?_range hk]; rfl
theorem behL_len (p : PrcX) (i : Nat) (b : BlkX) : (behL p i b).length = b.ins.length := by simp [behL]
theorem txt_eqK (l : List UInt8) : cmpS .eql ⟨l.toArray⟩ ⟨#[116, 105, 101]⟩ = decide (l = tieB) := by
  show ((⟨l.toArray⟩ : ByteArray).toList == (⟨tieB.toArray⟩ : ByteArray).toList) = _
  rw [txt_eq]
end Go.Proofs.Ytlbbmcpppfiplaa.Vc
/-
  LIVE: LivingRead.
-/
namespace Go.Proofs.Ytlbbmcpppfiplaa.Vc
open Go

theorem InI0 : InI 0 := by decide
end Go.Proofs.Ytlbbmcpppfiplaa.Vc
/-
  COLOUR: which functions may be coloured, by the document.
-/
namespace Go.Proofs.Ytlbbmcpppfiplaa.Vc
open Go

def inR (p : PrcX) (r : Int) : Bool := decide (0 ≤ r ∧ r < p.regs)
def EndX.uses (e : EndX) : List Int := if e.kind = 1 ∨ e.kind = 2 ∨ e.kind = 5 then [e.reg] else if e.kind = 3 then e.reg :: e.args else if e.kind = 4 then e.reg :: e.to :: e.args else if e.kind = 6 then [e.reg, e.to] else []
def InsX.may (p : PrcX) (x : InsX) : Bool := x.args.all (inR p) && (decide (x.op = tieB) || inR p x.to)
def BlkX.may (p : PrcX) (b : BlkX) : Bool := b.ins.all (InsX.may p) && b.e.uses.all (inR p)
def headMay (p : PrcX) : Bool := !(decide (p.regs < 0) || decide (p.regs > 2000) || decide (p.params < 0) || decide (p.params > p.regs) || decide ((p.blocks.length : Int) = 0))
def mayP (p : PrcX) : Bool := headMay p && p.blocks.all (BlkX.may p)
theorem all_take {α : Type} (f : α → Bool) {l : List α} {k : Nat} {a : α} (h : l[k]? = some a) : (l.take (k + 1)).all f = ((l.take k).all f && f a) := by
  rw [List.take_add_one, h, List.all_append]; simp
theorem all_no {α : Type} (f : α → Bool) {l : List α} {k : Nat} {a : α} (h : l[k]? = some a) (hf : f a = false) : l.all f = false := by
  rw [List.all_eq_false]
  exact ⟨a, List.mem_of_getElem? h, by simp [hf]⟩
theorem Regs15_gives (p : PrcX) (l : List Int) (bv lv : Value) (H : PH) (hbv : SlR H p.blocks bv) (hl : SlR H l lv) : Gives Try.prog n_scrimshawref15_Regs [.agg (prcVs p bv).toArray, lv] H (.bool (l.all (inR p))) := by
  obtain ⟨b0, c0, rfl⟩ := hbv.sl
  obtain ⟨b1, c1, rfl⟩ := hl.sl
  have hm := hl.max
  simp only [maxLen] at hm
  refine tri_scrimshawref15_Regs (prcVs p (.slice b0 p.blocks.length c0) ++ [.slice b1 l.length c1]) (by kernel_rfl) (by kernel_rfl) ?_
  simp only [prcVs, List.cons_append, List.nil_append]
  refine ⟨fun n vs K => ∃ (bb : Bool) (k : Nat), vs = [.bool bb, nI k] ∧ k + n = l.length ∧ K = H ∧ (l.take k).all (inR p) = true, ⟨l.length, false, 0, rfl, by omega, rfl, by simp⟩, ?_⟩
  rintro n vs K _ ⟨bb, k, rfl, hkn, rfl, hall⟩
  refine ⟨fun g => ?_, fun g => ?_⟩
  · simp only [ev0, ev, evV, List.cons_append, List.nil_append, List.getD_cons_zero, List.getD_cons_succ, List.map_cons, List.map_nil, iOf, bOf, sOf, pOf, slLen, slBase, cmpI, arI, Value.ite_bool, int_beq, int_bne, ite_band, ite_bor, decide_eq_true_eq] at g
    obtain ⟨r, hr⟩ : ∃ r, l[k]? = some r := ⟨_, List.getElem?_eq_getElem (show k < l.length by omega)⟩
    obtain ⟨r1, _, rcs, r2, r3⟩ := hl.get hr
    obtain ⟨rfl, _⟩ := csIK r2
    refine ⟨fun vs K' => vs = [.bool (!inR p r)] ∧ K' = K, ?_, fun _ => ?_, [.int .i64 r], rfl, ?_, fun g2 => ?_, fun g2 => ?_⟩
    · rintro vs K' _ ⟨rfl, rfl⟩
      refine ⟨fun g3 => ?_, fun g3 => ?_⟩
      · simp only [ev0, ev, evV, List.cons_append, List.nil_append, List.getD_cons_zero, List.getD_cons_succ, List.map_cons, List.map_nil, iOf, bOf, sOf, pOf, slLen, slBase, cmpI, arI, Value.ite_bool, int_beq, int_bne, ite_band, ite_bor] at g3
        have hno : inR p r = false := by simpa using g3
        refine ⟨?_, PH.le_refl _⟩
        rw [all_no (inR p) hr hno]; rfl
      · simp only [ev0, ev, evV, List.cons_append, List.nil_append, List.getD_cons_zero, List.getD_cons_succ, List.map_cons, List.map_nil, iOf, bOf, sOf, pOf, slLen, slBase, cmpI, arI, Value.ite_bool, int_beq, int_bne, ite_band, ite_bor] at g3
        have hyes : inR p r = true := by simpa using g3
        refine ⟨_, lookup_hit, n - 1, by omega, bb, k + 1, ?_, by omega, rfl, by rw [all_take _ hr, hall, hyes]; rfl⟩
        simp only [ev0, ev, evV, List.cons_append, List.nil_append, List.getD_cons_zero, List.getD_cons_succ, List.map_cons, List.map_nil, iOf, bOf, sOf, pOf, slLen, slBase, cmpI, arI, Value.ite_bool, int_beq, int_bne, ite_band, ite_bor]; rw [w64 (by omega) (by omega)]; rfl
    · simp only [Chk.holds, ev0, ev, evV, List.cons_append, List.nil_append, List.getD_cons_zero, List.getD_cons_succ, List.map_cons, List.map_nil, iOf, bOf, sOf, pOf, slLen, slBase, cmpI, arI, Value.ite_bool, int_beq, int_bne, ite_band, ite_bor]; exact ⟨r1, by omega, by omega⟩
    · simp only [ev0, ev, evV, List.cons_append, List.nil_append, List.getD_cons_zero, List.getD_cons_succ, List.map_cons, List.map_nil, iOf, bOf, sOf, pOf, slLen, slBase, cmpI, arI, Value.ite_bool, int_beq, int_bne, ite_band, ite_bor]; exact r3
    · simp only [ev0, ev, evV, List.cons_append, List.nil_append, List.getD_cons_zero, List.getD_cons_succ, List.map_cons, List.map_nil, iOf, bOf, sOf, pOf, slLen, slBase, cmpI, arI, Value.ite_bool, int_beq, int_bne, ite_band, ite_bor, decide_eq_true_eq] at g2
      refine ⟨_, lookup_hit, ?_, rfl⟩
      simp only [ev0, ev, evV, List.cons_append, List.nil_append, List.getD_cons_zero, List.getD_cons_succ, List.map_cons, List.map_nil, iOf, bOf, sOf, pOf, slLen, slBase, cmpI, arI, Value.ite_bool, int_beq, int_bne, ite_band, ite_bor, inR]
      rw [decide_eq_false (fun h => by omega)]; rfl
    · simp only [ev0, ev, evV, List.cons_append, List.nil_append, List.getD_cons_zero, List.getD_cons_succ, List.map_cons, List.map_nil, iOf, bOf, sOf, pOf, slLen, slBase, cmpI, arI, Value.ite_bool, int_beq, int_bne, ite_band, ite_bor, decide_eq_false_iff_not] at g2
      refine ⟨[.int .i64 r], rfl, ?_, _, lookup_hit, ?_, rfl⟩
      · simp only [ev0, ev, evV, List.cons_append, List.nil_append, List.getD_cons_zero, List.getD_cons_succ, List.map_cons, List.map_nil, iOf, bOf, sOf, pOf, slLen, slBase, cmpI, arI, Value.ite_bool, int_beq, int_bne, ite_band, ite_bor]; exact r3
      simp only [ev0, ev, evV, List.cons_append, List.nil_append, List.getD_cons_zero, List.getD_cons_succ, List.map_cons, List.map_nil, iOf, bOf, sOf, pOf, slLen, slBase, cmpI, arI, Value.ite_bool, int_beq, int_bne, ite_band, ite_bor, inR]
      by_cases h : r < p.regs
      · have h2 : decide (r ≥ p.regs) = false := decide_eq_false (by omega)
        rw [decide_eq_true (show 0 ≤ r ∧ r < p.regs from ⟨by omega, h⟩)]
        first | rw [h2]; rfl | simp [h2]
      · have h2 : decide (r ≥ p.regs) = true := decide_eq_true (by omega)
        rw [decide_eq_false (show ¬ (0 ≤ r ∧ r < p.regs) from fun hh => h hh.2)]
        first | rw [h2]; rfl | simp [h2]
  · simp only [ev0, ev, evV, List.cons_append, List.nil_append, List.getD_cons_zero, List.getD_cons_succ, List.map_cons, List.map_nil, iOf, bOf, sOf, pOf, slLen, slBase, cmpI, arI, Value.ite_bool, int_beq, int_bne, ite_band, ite_bor, decide_eq_false_iff_not] at g
    rw [List.take_of_length_le (by omega)] at hall
    exact ⟨by rw [hall]; rfl, PH.le_refl _⟩
theorem End18_gives (p : PrcX) (e : EndX) (bv av : Value) (H : PH) (hbv : SlR H p.blocks bv) (hav : SlR H e.args av) (h1 : InI e.reg) (h2 : InI e.to) (hl : e.args.length ≤ 4000000) : Gives Try.prog n_scrimshawref18_end [.agg (prcVs p bv).toArray, .agg (endVs e av).toArray] H (.bool (e.uses.all (inR p))) := by
  obtain ⟨b0, c0, rfl⟩ := hbv.sl
  obtain ⟨b1, c1, rfl⟩ := hav.sl
  refine tri_scrimshawref18_end (prcVs p (.slice b0 p.blocks.length c0) ++ endVs e (.slice b1 e.args.length c1)) (by kernel_rfl) (by kernel_rfl) ?_
  simp only [prcVs, endVs, List.cons_append, List.nil_append]
  refine den_hLit0 (α := Int) (b := 8) uIntsK elemIntK (Held.nil (PH.le_refl H)) pendNil fun v0 K0 h0 l0 _ => ?_
  refine ⟨fun vs K => ∃ v, vs = [v] ∧ PH.le H K ∧ SlR K e.uses v, ?_, fun vs K => K = K0 ∧ vs = [.bool (decide (e.kind = 1 ∨ e.kind = 2 ∨ e.kind = 5))], ?_, fun g => ?_, fun g => ?_⟩
  · rintro vs K _ ⟨v, rfl, hK, hv⟩
    obtain ⟨b2, c2, rfl⟩ := hv.sl
    refine den_gives [.bool (e.uses.all (inR p))] cb_scrimshawref15_Regs (Regs15_gives p e.uses _ _ K (hbv.le hK) hv) rfl pendNil fun K2 l2 => ⟨rfl, PH.le_trans hK l2⟩
  · rintro vs K _ ⟨rfl, rfl⟩
    refine ⟨fun g => ?_, fun g => ⟨fun g2 => ?_, fun g2 => ⟨fun g3 => ?_, fun g3 => ⟨fun g4 => ?_, fun g4 => ?_⟩⟩⟩⟩
    · simp only [ev0, ev, evV, List.cons_append, List.nil_append, List.getD_cons_zero, List.getD_cons_succ, List.map_cons, List.map_nil, iOf, bOf, sOf, pOf, slLen, slBase, cmpI, arI, Value.ite_bool, int_beq, int_bne, ite_band, ite_bor, decide_eq_true_eq] at g
      have hu : e.uses = [e.reg] := by unfold EndX.uses; rw [if_pos g]
      refine den_hLit (α := Int) (l := [e.reg]) (b := 8) [.int .i64 e.reg] uIntsK elemIntK rfl (by decide) (by decide) h0.tail (by kernel_rfl) (.cons (csIK_mk h1) .nil) pendNil fun v K2 k2 l2 _ => ?_
      obtain ⟨S3, s3, l3, k3⟩ := k2.freeze
      exact ⟨_, lookup_hit, v, rfl, PH.le_trans l3 k3.sh, by rw [hu]; exact s3.le k3.sh⟩
    · simp only [ev0, ev, evV, List.cons_append, List.nil_append, List.getD_cons_zero, List.getD_cons_succ, List.map_cons, List.map_nil, iOf, bOf, sOf, pOf, slLen, slBase, cmpI, arI, Value.ite_bool, int_beq, int_bne, ite_band, ite_bor, decide_eq_false_iff_not] at g
      simp only [ev0, ev, evV, List.cons_append, List.nil_append, List.getD_cons_zero, List.getD_cons_succ, List.map_cons, List.map_nil, iOf, bOf, sOf, pOf, slLen, slBase, cmpI, arI, Value.ite_bool, int_beq, int_bne, ite_band, ite_bor, decide_eq_true_eq] at g2
      have hu : e.uses = [e.reg] ++ e.args := by unfold EndX.uses; rw [if_neg g, if_pos g2]; rfl
      refine den_hLit (α := Int) (l := [e.reg]) (b := 8) [.int .i64 e.reg] uIntsK elemIntK rfl (by decide) (by decide) h0.tail (by kernel_rfl) (.cons (csIK_mk h1) .nil) pendNil fun v K2 k2 l2 _ => ?_
      refine den_hApp (b := 8) (more := e.args) uIntsK elemIntK (by kernel_rfl) (by kernel_rfl) k2 (hav.srcS k2.sh) (by simp only [maxLen, List.length_cons, List.length_nil]; omega) (by simp only [List.length_cons, List.length_nil]; omega) fun v3 K3 k3 _ => ⟨pendNil, ?_⟩
      obtain ⟨S4, s4, l4, k4⟩ := k3.freeze
      exact ⟨_, lookup_hit, v3, rfl, PH.le_trans l4 k4.sh, by rw [hu]; exact s4.le k4.sh⟩
    · simp only [ev0, ev, evV, List.cons_append, List.nil_append, List.getD_cons_zero, List.getD_cons_succ, List.map_cons, List.map_nil, iOf, bOf, sOf, pOf, slLen, slBase, cmpI, arI, Value.ite_bool, int_beq, int_bne, ite_band, ite_bor, decide_eq_false_iff_not] at g g2
      simp only [ev0, ev, evV, List.cons_append, List.nil_append, List.getD_cons_zero, List.getD_cons_succ, List.map_cons, List.map_nil, iOf, bOf, sOf, pOf, slLen, slBase, cmpI, arI, Value.ite_bool, int_beq, int_bne, ite_band, ite_bor, decide_eq_true_eq] at g3
      have hu : e.uses = [e.reg, e.to] ++ e.args := by unfold EndX.uses; rw [if_neg g, if_neg g2, if_pos g3]; rfl
      refine den_hLit (α := Int) (l := [e.reg, e.to]) (b := 8) [.int .i64 e.reg, .int .i64 e.to] uIntsK elemIntK rfl (by decide) (by decide) h0.tail (by kernel_rfl) (.cons (csIK_mk h1) (.cons (csIK_mk h2) .nil)) pendNil fun v K2 k2 l2 _ => ?_
      refine den_hApp (b := 8) (more := e.args) uIntsK elemIntK (by kernel_rfl) (by kernel_rfl) k2 (hav.srcS k2.sh) (by simp only [maxLen, List.length_cons, List.length_nil]; omega) (by simp only [List.length_cons, List.length_nil]; omega) fun v3 K3 k3 _ => ⟨pendNil, ?_⟩
      obtain ⟨S4, s4, l4, k4⟩ := k3.freeze
      exact ⟨_, lookup_hit, v3, rfl, PH.le_trans l4 k4.sh, by rw [hu]; exact s4.le k4.sh⟩
    · simp only [ev0, ev, evV, List.cons_append, List.nil_append, List.getD_cons_zero, List.getD_cons_succ, List.map_cons, List.map_nil, iOf, bOf, sOf, pOf, slLen, slBase, cmpI, arI, Value.ite_bool, int_beq, int_bne, ite_band, ite_bor, decide_eq_false_iff_not] at g g2 g3
      simp only [ev0, ev, evV, List.cons_append, List.nil_append, List.getD_cons_zero, List.getD_cons_succ, List.map_cons, List.map_nil, iOf, bOf, sOf, pOf, slLen, slBase, cmpI, arI, Value.ite_bool, int_beq, int_bne, ite_band, ite_bor, decide_eq_true_eq] at g4
      have hu : e.uses = [e.reg, e.to] := by unfold EndX.uses; rw [if_neg g, if_neg g2, if_neg g3, if_pos g4]
      refine den_hLit (α := Int) (l := [e.reg, e.to]) (b := 8) [.int .i64 e.reg, .int .i64 e.to] uIntsK elemIntK rfl (by decide) (by decide) h0.tail (by kernel_rfl) (.cons (csIK_mk h1) (.cons (csIK_mk h2) .nil)) pendNil fun v K2 k2 l2 _ => ?_
      obtain ⟨S3, s3, l3, k3⟩ := k2.freeze
      exact ⟨_, lookup_hit, v, rfl, PH.le_trans l3 k3.sh, by rw [hu]; exact s3.le k3.sh⟩
    · simp only [ev0, ev, evV, List.cons_append, List.nil_append, List.getD_cons_zero, List.getD_cons_succ, List.map_cons, List.map_nil, iOf, bOf, sOf, pOf, slLen, slBase, cmpI, arI, Value.ite_bool, int_beq, int_bne, ite_band, ite_bor, decide_eq_false_iff_not] at g g2 g3 g4
      have hu : e.uses = [] := by unfold EndX.uses; rw [if_neg g, if_neg g2, if_neg g3, if_neg g4]
      obtain ⟨S3, s3, l3, k3⟩ := h0.freeze
      exact ⟨_, lookup_hit, v0, rfl, PH.le_trans l3 k3.sh, by rw [hu]; exact s3.le k3.sh⟩
  · simp only [ev0, ev, evV, List.cons_append, List.nil_append, List.getD_cons_zero, List.getD_cons_succ, List.map_cons, List.map_nil, iOf, bOf, sOf, pOf, slLen, slBase, cmpI, arI, Value.ite_bool, int_beq, int_bne, ite_band, ite_bor, decide_eq_true_eq] at g
    refine ⟨_, lookup_hit, rfl, ?_⟩
    simp [ev0, ev, evV, List.cons_append, List.nil_append, List.getD_cons_zero, List.getD_cons_succ, List.map_cons, List.map_nil, iOf, bOf, sOf, pOf, slLen, slBase, cmpI, arI, Value.ite_bool, int_beq, int_bne, ite_band, ite_bor, g]
  · simp only [ev0, ev, evV, List.cons_append, List.nil_append, List.getD_cons_zero, List.getD_cons_succ, List.map_cons, List.map_nil, iOf, bOf, sOf, pOf, slLen, slBase, cmpI, arI, Value.ite_bool, int_beq, int_bne, ite_band, ite_bor, decide_eq_false_iff_not] at g
    refine ⟨_, lookup_hit, rfl, ?_⟩
    by_cases h2 : e.kind = 2 <;> by_cases h5 : e.kind = 5 <;> simp [ev0, ev, evV, List.cons_append, List.nil_append, List.getD_cons_zero, List.getD_cons_succ, List.map_cons, List.map_nil, iOf, bOf, sOf, pOf, slLen, slBase, cmpI, arI, Value.ite_bool, int_beq, int_bne, ite_band, ite_bor, g, h2, h5]
set_option maxHeartbeats 1000000 in
theorem May18_gives (p : PrcX) (bv : Value) (H : PH) (hbv : SlR H p.blocks bv) (hp : p.Fit) (hE : ∀ b ∈ p.blocks, b.e.args.length ≤ 2000000) : Gives Try.prog n_scrimshawref18_May [.agg (prcVs p bv).toArray] H (.bool (mayP p)) := by
  have hN := hp.n
  obtain ⟨b0, c0, rfl⟩ := hbv.sl
  refine tri_scrimshawref18_May (prcVs p (.slice b0 p.blocks.length c0)) (by kernel_rfl) (by kernel_rfl) ?_
  simp only [prcVs]
  refine ⟨fun g => ?_, fun g => ?_⟩
  · simp only [ev0, ev, evV, List.cons_append, List.nil_append, List.getD_cons_zero, List.getD_cons_succ, List.map_cons, List.map_nil, iOf, bOf, sOf, pOf, slLen, slBase, cmpI, arI, Value.ite_bool, int_beq, int_bne, ite_band, ite_bor] at g
    refine ⟨?_, PH.le_refl _⟩
    have : mayP p = false := by unfold mayP headMay; rw [g]; rfl
    rw [this]; rfl
  simp only [ev0, ev, evV, List.cons_append, List.nil_append, List.getD_cons_zero, List.getD_cons_succ, List.map_cons, List.map_nil, iOf, bOf, sOf, pOf, slLen, slBase, cmpI, arI, Value.ite_bool, int_beq, int_bne, ite_band, ite_bor] at g
  have hh : headMay p = true := by unfold headMay; rw [g]; rfl
  refine ⟨fun n vs K => ∃ (bb : Bool) (k : Nat), vs = [.bool bb, nI k] ∧ k + n = p.blocks.length ∧ PH.le H K ∧ (p.blocks.take k).all (BlkX.may p) = true, ⟨p.blocks.length, false, 0, rfl, by omega, PH.le_refl _, by simp⟩, ?_⟩
  rintro n vs K _ ⟨bb, k, rfl, hkn, lk, hall⟩
  refine ⟨fun g => ?_, fun g => ?_⟩
  rotate_left
  · simp only [ev0, ev, evV, List.cons_append, List.nil_append, List.getD_cons_zero, List.getD_cons_succ, List.map_cons, List.map_nil, iOf, bOf, sOf, pOf, slLen, slBase, cmpI, arI, Value.ite_bool, int_beq, int_bne, ite_band, ite_bor, decide_eq_false_iff_not] at g
    rw [List.take_of_length_le (by omega)] at hall
    refine ⟨?_, lk⟩
    unfold mayP; rw [hh, hall]; rfl
  simp only [ev0, ev, evV, List.cons_append, List.nil_append, List.getD_cons_zero, List.getD_cons_succ, List.map_cons, List.map_nil, iOf, bOf, sOf, pOf, slLen, slBase, cmpI, arI, Value.ite_bool, int_beq, int_bne, ite_band, ite_bor, decide_eq_true_eq] at g
  have hk : k < p.blocks.length := by omega
  obtain ⟨b, hb⟩ : ∃ b, p.blocks[k]? = some b := ⟨_, List.getElem?_eq_getElem hk⟩
  have hbl := hp.ins b (List.mem_of_getElem? hb)
  have hno : BlkX.may p b = false → mayP p = false := fun h => by unfold mayP; rw [all_no _ hb h, Bool.and_false]
  obtain ⟨q1, _, ces, q2, q3⟩ := hbv.get hb
  obtain ⟨iv, es, rfl, his, hes⟩ := blk_iff.1 q2
  obtain ⟨av, rfl, e1, e2, hea, e3, e4, e5⟩ := end_iff.1 hes
  obtain ⟨b2, c2, rfl⟩ := his.sl
  obtain ⟨b3, c3, rfl⟩ := hea.sl
  refine ⟨fun _ => ?_, [.slice b2 b.ins.length c2, .int .i64 b.e.kind, .int .i64 b.e.reg, .slice b3 b.e.args.length c3, .int .i64 b.e.to, .int .i64 b.e.next, .int .i64 b.e.els], rfl, ?_, ?_⟩
  · simp only [Chk.holds, ev0, ev, evV, List.cons_append, List.nil_append, List.getD_cons_zero, List.getD_cons_succ, List.map_cons, List.map_nil, iOf, bOf, sOf, pOf, slLen, slBase, cmpI, arI, Value.ite_bool, int_beq, int_bne, ite_band, ite_bor]; exact ⟨q1, by omega, by omega⟩
  · simp only [ev0, ev, evV, List.cons_append, List.nil_append, List.getD_cons_zero, List.getD_cons_succ, List.map_cons, List.map_nil, iOf, bOf, sOf, pOf, slLen, slBase, cmpI, arI, Value.ite_bool, int_beq, int_bne, ite_band, ite_bor]; exact rowAt_le lk q3
  simp only [List.cons_append, List.nil_append]
  refine ⟨fun n vs K' => ∃ (bb : Bool) (j : Nat), vs = [.bool bb, nI j] ∧ j + n = b.ins.length ∧ PH.le H K' ∧ (b.ins.take j).all (InsX.may p) = true, ⟨b.ins.length, bb, 0, rfl, by omega, lk, by simp⟩, ?_⟩
  rintro n2 vs K2 _ ⟨bb2, j, rfl, hjn, lj, hall2⟩
  simp only [List.cons_append, List.nil_append]
  refine ⟨fun g2 => ?_, fun g2 => ?_⟩
  · simp only [ev0, ev, evV, List.cons_append, List.nil_append, List.getD_cons_zero, List.getD_cons_succ, List.map_cons, List.map_nil, iOf, bOf, sOf, pOf, slLen, slBase, cmpI, arI, Value.ite_bool, int_beq, int_bne, ite_band, ite_bor, decide_eq_true_eq] at g2
    obtain ⟨x, hx⟩ : ∃ x, b.ins[j]? = some x := ⟨_, List.getElem?_eq_getElem (show j < b.ins.length by omega)⟩
    have hno2 : InsX.may p x = false → mayP p = false := fun h => hno (by unfold BlkX.may; rw [all_no _ hx h, Bool.false_and])
    obtain ⟨y1, _, ycs, y2, y3⟩ := his.get hx
    obtain ⟨arv, dv, rfl, _, x2, hya, _, _, _, hyd, _⟩ := ins_iff.1 y2
    obtain ⟨rb, rc, rfl⟩ := hya.sl
    obtain ⟨db, dc, rfl⟩ := hyd.sl
    refine ⟨fun _ => ?_, [txt x.op, .int .i64 x.to, .slice rb x.args.length rc, .int .i64 x.const.kind, .int .i64 x.const.int, txt x.const.text, .slice db x.const.list.length dc, .int .i64 x.num], rfl, ?_, ?_⟩
    · simp only [Chk.holds, ev0, ev, evV, List.cons_append, List.nil_append, List.getD_cons_zero, List.getD_cons_succ, List.map_cons, List.map_nil, iOf, bOf, sOf, pOf, slLen, slBase, cmpI, arI, Value.ite_bool, int_beq, int_bne, ite_band, ite_bor]; exact ⟨y1, by omega, by omega⟩
    · simp only [ev0, ev, evV, List.cons_append, List.nil_append, List.getD_cons_zero, List.getD_cons_succ, List.map_cons, List.map_nil, iOf, bOf, sOf, pOf, slLen, slBase, cmpI, arI, Value.ite_bool, int_beq, int_bne, ite_band, ite_bor]; exact rowAt_le lj y3
    simp only [List.cons_append, List.nil_append]
    refine ⟨fun vs K' => vs = [.bool (!InsX.may p x)] ∧ PH.le K2 K', ?_, ?_⟩
    · rintro vs K3 _ ⟨rfl, l3⟩
      refine ⟨fun g3 => ?_, fun g3 => ?_⟩
      · simp only [ev0, ev, evV, List.cons_append, List.nil_append, List.getD_cons_zero, List.getD_cons_succ, List.map_cons, List.map_nil, iOf, bOf, sOf, pOf, slLen, slBase, cmpI, arI, Value.ite_bool, int_beq, int_bne, ite_band, ite_bor] at g3
        refine ⟨?_, PH.le_trans lj l3⟩
        rw [hno2 (by simpa using g3)]; rfl
      · simp only [ev0, ev, evV, List.cons_append, List.nil_append, List.getD_cons_zero, List.getD_cons_succ, List.map_cons, List.map_nil, iOf, bOf, sOf, pOf, slLen, slBase, cmpI, arI, Value.ite_bool, int_beq, int_bne, ite_band, ite_bor] at g3
        have hy : InsX.may p x = true := by simpa using g3
        refine ⟨_, lookup_hit, n2 - 1, by omega, bb2, j + 1, ?_, by omega, PH.le_trans lj l3, by rw [all_take _ hx, hall2, hy]; rfl⟩
        simp only [ev0, ev, evV, List.cons_append, List.nil_append, List.getD_cons_zero, List.getD_cons_succ, List.map_cons, List.map_nil, iOf, bOf, sOf, pOf, slLen, slBase, cmpI, arI, Value.ite_bool, int_beq, int_bne, ite_band, ite_bor]; rw [w64 (by omega) (by omega)]; rfl
    refine den_gives [.bool (x.args.all (inR p))] cb_scrimshawref15_Regs (Regs15_gives p x.args _ _ K2 (hbv.le lj) (hya.le lj)) rfl pendNil fun K3 l3 => ⟨fun g3 => ?_, fun g3 => ⟨fun g4 => ?_, fun g4 => ?_⟩⟩
    · simp only [ev0, ev, evV, List.cons_append, List.nil_append, List.getD_cons_zero, List.getD_cons_succ, List.map_cons, List.map_nil, iOf, bOf, sOf, pOf, slLen, slBase, cmpI, arI, Value.ite_bool, int_beq, int_bne, ite_band, ite_bor] at g3
      refine ⟨_, lookup_hit, ?_, l3⟩
      have : x.args.all (inR p) = false := by simpa using g3
      simp only [ev0, ev, evV, List.cons_append, List.nil_append, List.getD_cons_zero, List.getD_cons_succ, List.map_cons, List.map_nil, iOf, bOf, sOf, pOf, slLen, slBase, cmpI, arI, Value.ite_bool, int_beq, int_bne, ite_band, ite_bor, InsX.may]
      rw [this]; rfl
    · simp only [ev0, ev, evV, List.cons_append, List.nil_append, List.getD_cons_zero, List.getD_cons_succ, List.map_cons, List.map_nil, iOf, bOf, sOf, pOf, slLen, slBase, cmpI, arI, Value.ite_bool, int_beq, int_bne, ite_band, ite_bor] at g3
      simp only [ev0, ev, evV, List.cons_append, List.nil_append, List.getD_cons_zero, List.getD_cons_succ, List.map_cons, List.map_nil, iOf, bOf, sOf, pOf, slLen, slBase, cmpI, arI, Value.ite_bool, int_beq, int_bne, ite_band, ite_bor, txt_neK] at g4
      have ha : x.args.all (inR p) = true := by simpa using g3
      have hop : x.op ≠ tieB := by simpa using g4
      refine den_hLit (α := Int) (l := [x.to]) (b := 8) [.int .i64 x.to] uIntsK elemIntK rfl (by decide) (by decide) (Held.nil (PH.le_refl K3)) (by kernel_rfl) (.cons (csIK_mk x2) .nil) pendNil fun v4 K4 k4 _ _ => ?_
      obtain ⟨S5, s5, l5, k5⟩ := k4.freeze
      obtain ⟨b5, c5, rfl⟩ := s5.sl
      have l35 := PH.le_trans l3 (PH.le_trans l5 k5.sh)
      refine den_gives [.bool (([x.to] : List Int).all (inR p))] cb_scrimshawref15_Regs (Regs15_gives p [x.to] _ _ K4 (hbv.le (PH.le_trans lj l35)) (s5.le k5.sh)) rfl pendNil fun K6 l6 => ?_
      refine ⟨_, lookup_hit, ?_, PH.le_trans l35 l6⟩
      simp only [ev0, ev, evV, List.cons_append, List.nil_append, List.getD_cons_zero, List.getD_cons_succ, List.map_cons, List.map_nil, iOf, bOf, sOf, pOf, slLen, slBase, cmpI, arI, Value.ite_bool, int_beq, int_bne, ite_band, ite_bor, InsX.may]
      rw [ha, decide_eq_false hop]; simp
    · simp only [ev0, ev, evV, List.cons_append, List.nil_append, List.getD_cons_zero, List.getD_cons_succ, List.map_cons, List.map_nil, iOf, bOf, sOf, pOf, slLen, slBase, cmpI, arI, Value.ite_bool, int_beq, int_bne, ite_band, ite_bor] at g3
      simp only [ev0, ev, evV, List.cons_append, List.nil_append, List.getD_cons_zero, List.getD_cons_succ, List.map_cons, List.map_nil, iOf, bOf, sOf, pOf, slLen, slBase, cmpI, arI, Value.ite_bool, int_beq, int_bne, ite_band, ite_bor, txt_neK] at g4
      have ha : x.args.all (inR p) = true := by simpa using g3
      have hop : x.op = tieB := by simpa using g4
      refine ⟨_, lookup_hit, ?_, l3⟩
      simp only [ev0, ev, evV, List.cons_append, List.nil_append, List.getD_cons_zero, List.getD_cons_succ, List.map_cons, List.map_nil, iOf, bOf, sOf, pOf, slLen, slBase, cmpI, arI, Value.ite_bool, int_beq, int_bne, ite_band, ite_bor, InsX.may]
      rw [ha, decide_eq_true hop]; rfl
  · simp only [ev0, ev, evV, List.cons_append, List.nil_append, List.getD_cons_zero, List.getD_cons_succ, List.map_cons, List.map_nil, iOf, bOf, sOf, pOf, slLen, slBase, cmpI, arI, Value.ite_bool, int_beq, int_bne, ite_band, ite_bor, decide_eq_false_iff_not] at g2
    rw [List.take_of_length_le (by omega)] at hall2
    refine den_gives [.bool (b.e.uses.all (inR p))] cb_scrimshawref18_end (End18_gives p b.e _ _ K2 (hbv.le lj) (hea.le lj) e2 e3 (Nat.le_trans (hE b (List.mem_of_getElem? hb)) (by omega))) rfl pendNil fun K3 l3 => ⟨fun g3 => ?_, fun g3 => ?_⟩
    · simp only [ev0, ev, evV, List.cons_append, List.nil_append, List.getD_cons_zero, List.getD_cons_succ, List.map_cons, List.map_nil, iOf, bOf, sOf, pOf, slLen, slBase, cmpI, arI, Value.ite_bool, int_beq, int_bne, ite_band, ite_bor] at g3
      refine ⟨?_, PH.le_trans lj l3⟩
      rw [hno (by unfold BlkX.may; rw [show b.e.uses.all (inR p) = false by simpa using g3, Bool.and_false])]; rfl
    · simp only [ev0, ev, evV, List.cons_append, List.nil_append, List.getD_cons_zero, List.getD_cons_succ, List.map_cons, List.map_nil, iOf, bOf, sOf, pOf, slLen, slBase, cmpI, arI, Value.ite_bool, int_beq, int_bne, ite_band, ite_bor] at g3
      have hy : b.e.uses.all (inR p) = true := by simpa using g3
      refine ⟨_, lookup_skip rfl lookup_hit, n - 1, by omega, bb2, k + 1, ?_, by omega, PH.le_trans lj l3, by rw [all_take _ hb, hall]; unfold BlkX.may; rw [hall2, hy]; rfl⟩
      simp only [ev0, ev, evV, List.cons_append, List.nil_append, List.getD_cons_zero, List.getD_cons_succ, List.map_cons, List.map_nil, iOf, bOf, sOf, pOf, slLen, slBase, cmpI, arI, Value.ite_bool, int_beq, int_bne, ite_band, ite_bor]; rw [w64 (by omega) (by omega)]; rfl
end Go.Proofs.Ytlbbmcpppfiplaa.Vc
/-
  COLOUR: which functions may be coloured, by the program.
-/
namespace Go.Proofs.Ytlbbmcpppfiplaa.Vc
open Go

theorem may1_tri (p : PrcX) (l : List Int) (lv bv : Value) (kb pb : Nat) (S K : PH) (o : Bool) (hl : SlR S l lv) (h : Held S K [bx kb 4 [.bool o], bx pb 24 (prcVs p bv)]) :
    Tri Try.prog n_color_may_1 #[lv, pAt kb, pAt pb] K fun x K' => x = .returned (.tuple #[]) ∧ Held S K' [bx kb 4 [.bool (o && l.all (inR p))], bx pb 24 (prcVs p bv)] := by
  obtain ⟨b1, c1, rfl⟩ := hl.sl
  have hm := hl.max
  simp only [maxLen] at hm
  refine tri_color_may_1 [.slice b1 l.length c1, pAt kb, pAt pb] (by kernel_rfl) (by kernel_rfl) ?_
  refine ⟨fun n vs K' => ∃ k : Nat, vs = [nI k] ∧ k + n = l.length ∧ Held S K' [bx kb 4 [.bool (o && (l.take k).all (inR p))], bx pb 24 (prcVs p bv)], ⟨l.length, 0, rfl, by omega, by simpa using h⟩, ?_⟩
  rintro n vs K1 _ ⟨k, rfl, hkn, h1⟩
  refine ⟨fun g => ?_, fun g => ?_⟩
  · simp only [ev0, ev, evV, List.cons_append, List.nil_append, List.getD_cons_zero, List.getD_cons_succ, List.map_cons, List.map_nil, iOf, bOf, sOf, pOf, slLen, slBase, cmpI, arI, Value.ite_bool, int_beq, int_bne, ite_band, ite_bor, decide_eq_true_eq] at g
    obtain ⟨r, hr⟩ : ∃ r, l[k]? = some r := ⟨_, List.getElem?_eq_getElem (show k < l.length by omega)⟩
    obtain ⟨r1, _, rcs, r2, r3⟩ := hl.get hr
    obtain ⟨rfl, _⟩ := csIK r2
    refine ⟨fun vs K' => vs = [] ∧ Held S K' [bx kb 4 [.bool (o && (l.take (k + 1)).all (inR p))], bx pb 24 (prcVs p bv)], ?_, fun _ => ?_, [.int .i64 r], rfl, ?_, ?_⟩
    · rintro vs K' _ ⟨rfl, h2⟩
      refine ⟨_, lookup_hit, n - 1, by omega, k + 1, ?_, by omega, h2⟩
      simp only [ev0, ev, evV, List.cons_append, List.nil_append, List.getD_cons_zero, List.getD_cons_succ, List.map_cons, List.map_nil, iOf, bOf, sOf, pOf, slLen, slBase, cmpI, arI, Value.ite_bool, int_beq, int_bne, ite_band, ite_bor]; rw [w64 (by omega) (by omega)]; rfl
    · simp only [Chk.holds, ev0, ev, evV, List.cons_append, List.nil_append, List.getD_cons_zero, List.getD_cons_succ, List.map_cons, List.map_nil, iOf, bOf, sOf, pOf, slLen, slBase, cmpI, arI, Value.ite_bool, int_beq, int_bne, ite_band, ite_bor]; exact ⟨r1, by omega, by omega⟩
    · simp only [ev0, ev, evV, List.cons_append, List.nil_append, List.getD_cons_zero, List.getD_cons_succ, List.map_cons, List.map_nil, iOf, bOf, sOf, pOf, slLen, slBase, cmpI, arI, Value.ite_bool, int_beq, int_bne, ite_band, ite_bor]; exact rowAt_le h1.sh r3
    refine den_bxLoad [.bool (o && (l.take k).all (inR p))] (off := 0) (by kernel_rfl) h1 (List.mem_cons_self ..) rfl rfl ?_
    refine ⟨fun _ => rfl, fun g2 => ?_, fun g2 => ?_⟩
    · simp only [ev0, ev, evV, List.cons_append, List.nil_append, List.getD_cons_zero, List.getD_cons_succ, List.map_cons, List.map_nil, iOf, bOf, sOf, pOf, slLen, slBase, cmpI, arI, Value.ite_bool, int_beq, int_bne, ite_band, ite_bor] at g2
      have hg : (o && (l.take k).all (inR p)) = true ∧ 0 ≤ r := by
        cases hc : (o && (l.take k).all (inR p)) with
        | true => rw [hc] at g2; simp only [Bool.true_and, decide_eq_true_eq] at g2; exact ⟨rfl, by omega⟩
        | false => rw [hc] at g2; simp at g2
      refine den_bxLoad [.int .i64 p.regs] (off := 2) (by kernel_rfl) h1 (List.mem_cons_of_mem _ (List.mem_cons_self ..)) rfl rfl ?_
      refine den_bxStore (off := 0) (vs := [.bool (decide (r < p.regs))]) (by kernel_rfl) h1 (by simp only [ev0, ev, evV, List.cons_append, List.nil_append, List.getD_cons_zero, List.getD_cons_succ, List.map_cons, List.map_nil, iOf, bOf, sOf, pOf, slLen, slBase, cmpI, arI, Value.ite_bool, int_beq, int_bne, ite_band, ite_bor]) (by simp [oneC]) (by simp) fun K2 h2 => ?_
      refine ⟨_, lookup_hit, rfl, ?_⟩
      have : (o && (l.take (k + 1)).all (inR p)) = decide (r < p.regs) := by
        rw [all_take _ hr, ← Bool.and_assoc, hg.1, Bool.true_and]
        unfold inR
        by_cases h : r < p.regs
        · rw [decide_eq_true h, decide_eq_true ⟨hg.2, h⟩]
        · rw [decide_eq_false h, decide_eq_false (fun hh => h hh.2)]
      rw [this]; exact h2
    · simp only [ev0, ev, evV, List.cons_append, List.nil_append, List.getD_cons_zero, List.getD_cons_succ, List.map_cons, List.map_nil, iOf, bOf, sOf, pOf, slLen, slBase, cmpI, arI, Value.ite_bool, int_beq, int_bne, ite_band, ite_bor] at g2
      refine den_bxStore (off := 0) (vs := [.bool false]) (by kernel_rfl) h1 (by simp only [ev0, ev, evV, List.cons_append, List.nil_append, List.getD_cons_zero, List.getD_cons_succ, List.map_cons, List.map_nil, iOf, bOf, sOf, pOf, slLen, slBase, cmpI, arI, Value.ite_bool, int_beq, int_bne, ite_band, ite_bor]) (by simp [oneC]) (by simp) fun K2 h2 => ?_
      refine ⟨_, lookup_hit, rfl, ?_⟩
      have : (o && (l.take (k + 1)).all (inR p)) = false := by
        rw [all_take _ hr, ← Bool.and_assoc]
        cases hc : (o && (l.take k).all (inR p)) with
        | true =>
          rw [hc] at g2
          simp only [Bool.true_and, decide_eq_false_iff_not] at g2
          rw [Bool.true_and]
          unfold inR
          exact decide_eq_false (fun hh => g2 (by omega))
        | false => rfl
      rw [this]; exact h2
  · simp only [ev0, ev, evV, List.cons_append, List.nil_append, List.getD_cons_zero, List.getD_cons_succ, List.map_cons, List.map_nil, iOf, bOf, sOf, pOf, slLen, slBase, cmpI, arI, Value.ite_bool, int_beq, int_bne, ite_band, ite_bor, decide_eq_false_iff_not] at g
    rw [List.take_of_length_le (by omega)] at h1
    exact ⟨rfl, h1⟩
theorem uses_kind {e : EndX} : e.uses = if e.kind = 1 ∨ e.kind = 2 ∨ e.kind = 5 then [e.reg] else if e.kind = 3 then [e.reg] ++ e.args else if e.kind = 4 then [e.reg, e.to] ++ e.args else if e.kind = 6 then [e.reg, e.to] else [] := rfl
set_option maxHeartbeats 1000000 in
theorem May_gives (p : PrcX) (bv : Value) (H : PH) (hbv : SlR H p.blocks bv) (hp : p.Fit) (hE : ∀ b ∈ p.blocks, b.e.args.length ≤ 2000000) : Gives Try.prog n_color_may [.agg (prcVs p bv).toArray] H (.bool (mayP p)) := by
  have hN := hp.n
  obtain ⟨b0, c0, rfl⟩ := hbv.sl
  refine tri_color_may (prcVs p (.slice b0 p.blocks.length c0)) (by kernel_rfl) (by kernel_rfl) ?_
  simp only [prcVs]
  refine den_bxNew (vs := prcVs p (.slice b0 p.blocks.length c0)) (Held.nil (PH.le_refl H)) (by kernel_rfl) fun pb K1 _ h1 => ?_
  simp only [List.cons_append, List.nil_append]
  have hm1 : bx pb 24 (prcVs p (.slice b0 p.blocks.length c0)) ∈ [bx pb 24 (prcVs p (.slice b0 p.blocks.length c0))] := List.mem_cons_self ..
  refine ⟨fun vs K => vs = [.bool (!headMay p)] ∧ K = K1, ?_, ?_⟩
  rotate_left
  · refine ⟨fun _ => rfl, ?_⟩
    refine den_bxLoad [.int .i64 p.regs] (off := 2) (by kernel_rfl) h1 hm1 rfl rfl ?_
    refine ⟨fun g => ?_, fun g => ?_⟩
    · simp only [ev0, ev, evV, List.cons_append, List.nil_append, List.getD_cons_zero, List.getD_cons_succ, List.map_cons, List.map_nil, iOf, bOf, sOf, pOf, slLen, slBase, cmpI, arI, Value.ite_bool, int_beq, int_bne, ite_band, ite_bor] at g
      refine ⟨_, lookup_hit, ?_, rfl⟩
      unfold headMay; rw [g]; rfl
    simp only [ev0, ev, evV, List.cons_append, List.nil_append, List.getD_cons_zero, List.getD_cons_succ, List.map_cons, List.map_nil, iOf, bOf, sOf, pOf, slLen, slBase, cmpI, arI, Value.ite_bool, int_beq, int_bne, ite_band, ite_bor] at g
    refine den_bxLoad [.int .i64 p.regs] (off := 2) (by kernel_rfl) h1 hm1 rfl rfl ?_
    refine ⟨fun g2 => ?_, fun g2 => ?_⟩
    · simp only [ev0, ev, evV, List.cons_append, List.nil_append, List.getD_cons_zero, List.getD_cons_succ, List.map_cons, List.map_nil, iOf, bOf, sOf, pOf, slLen, slBase, cmpI, arI, Value.ite_bool, int_beq, int_bne, ite_band, ite_bor] at g2
      refine ⟨_, lookup_hit, ?_, rfl⟩
      unfold headMay; rw [g, g2]; rfl
    simp only [ev0, ev, evV, List.cons_append, List.nil_append, List.getD_cons_zero, List.getD_cons_succ, List.map_cons, List.map_nil, iOf, bOf, sOf, pOf, slLen, slBase, cmpI, arI, Value.ite_bool, int_beq, int_bne, ite_band, ite_bor] at g2
    refine den_bxLoad [.int .i64 p.params] (off := 0) (by kernel_rfl) h1 hm1 rfl rfl ?_
    refine ⟨fun g3 => ?_, fun g3 => ?_⟩
    · simp only [ev0, ev, evV, List.cons_append, List.nil_append, List.getD_cons_zero, List.getD_cons_succ, List.map_cons, List.map_nil, iOf, bOf, sOf, pOf, slLen, slBase, cmpI, arI, Value.ite_bool, int_beq, int_bne, ite_band, ite_bor] at g3
      refine ⟨_, lookup_hit, ?_, rfl⟩
      unfold headMay; rw [g, g2, g3]; rfl
    simp only [ev0, ev, evV, List.cons_append, List.nil_append, List.getD_cons_zero, List.getD_cons_succ, List.map_cons, List.map_nil, iOf, bOf, sOf, pOf, slLen, slBase, cmpI, arI, Value.ite_bool, int_beq, int_bne, ite_band, ite_bor] at g3
    refine den_bxLoad [.int .i64 p.params] (off := 0) (by kernel_rfl) h1 hm1 rfl rfl ?_
    refine den_bxLoad [.int .i64 p.regs] (off := 2) (by kernel_rfl) h1 hm1 rfl rfl ?_
    refine ⟨fun g4 => ?_, fun g4 => ?_⟩
    · simp only [ev0, ev, evV, List.cons_append, List.nil_append, List.getD_cons_zero, List.getD_cons_succ, List.map_cons, List.map_nil, iOf, bOf, sOf, pOf, slLen, slBase, cmpI, arI, Value.ite_bool, int_beq, int_bne, ite_band, ite_bor] at g4
      refine ⟨_, lookup_hit, ?_, rfl⟩
      unfold headMay; rw [g, g2, g3, g4]; rfl
    simp only [ev0, ev, evV, List.cons_append, List.nil_append, List.getD_cons_zero, List.getD_cons_succ, List.map_cons, List.map_nil, iOf, bOf, sOf, pOf, slLen, slBase, cmpI, arI, Value.ite_bool, int_beq, int_bne, ite_band, ite_bor] at g4
    refine den_bxLoad [.slice b0 p.blocks.length c0] (off := 3) (by kernel_rfl) h1 hm1 rfl rfl ?_
    refine ⟨_, lookup_hit, ?_, rfl⟩
    simp only [ev0, ev, evV, List.cons_append, List.nil_append, List.getD_cons_zero, List.getD_cons_succ, List.map_cons, List.map_nil, iOf, bOf, sOf, pOf, slLen, slBase, cmpI, arI, Value.ite_bool, int_beq, int_bne, ite_band, ite_bor]
    unfold headMay; rw [g, g2, g3, g4, Bool.not_not]; rfl
  rintro vs K _ ⟨rfl, rfl⟩
  simp only [List.cons_append, List.nil_append]
  refine ⟨fun g => ?_, fun g => ?_⟩
  · simp only [ev0, ev, evV, List.cons_append, List.nil_append, List.getD_cons_zero, List.getD_cons_succ, List.map_cons, List.map_nil, iOf, bOf, sOf, pOf, slLen, slBase, cmpI, arI, Value.ite_bool, int_beq, int_bne, ite_band, ite_bor] at g
    refine ⟨?_, h1.sh⟩
    have : headMay p = false := by simpa using g
    unfold mayP; rw [this]; rfl
  simp only [ev0, ev, evV, List.cons_append, List.nil_append, List.getD_cons_zero, List.getD_cons_succ, List.map_cons, List.map_nil, iOf, bOf, sOf, pOf, slLen, slBase, cmpI, arI, Value.ite_bool, int_beq, int_bne, ite_band, ite_bor] at g
  have hh : headMay p = true := by simpa using g
  refine den_bxNew (vs := [.bool false]) h1 (by kernel_rfl) fun kb K2 _ h2 => ?_
  refine den_bxStore (off := 0) (vs := [.bool true]) (by kernel_rfl) h2 (by kernel_rfl) (by simp [oneC]) (by simp) fun K3 h3 => ?_
  have h3 : Held H K3 [bx kb 4 [.bool true], bx pb 24 (prcVs p (.slice b0 p.blocks.length c0))] := h3
  refine den_makeFunc (f := n_color_may_1) rfl ?_
  have hmf : ∀ (E : List Value) (a : List (Nat × VE)), a = [(3, VE.sc (.atom 6)), (1, VE.sc (.atom 4))] → E.getD 6 (.bool false) = pAt kb → E.getD 4 (.bool false) = pAt pb → (.func (.func n_color_may_1) ((#[] : Array Operand).map (argEv E a)) ((#[(.tmp 3), (.tmp 1)] : Array Operand).map (argEv E a)) : Value) = .func (.func n_color_may_1) #[] #[pAt kb, pAt pb] := by
    rintro E a rfl h6 h4
    rw [List.getD_eq_getElem?_getD] at h6 h4
    simp [argEv, evV, ev, List.lookup, h6, h4]
  rw [hmf _ _ rfl rfl rfl]
  simp only [List.cons_append, List.nil_append]
  refine ⟨fun _ => rfl, ?_⟩
  refine den_bxLoad [.slice b0 p.blocks.length c0] (off := 3) (by kernel_rfl) h3 (List.mem_cons_of_mem _ (List.mem_cons_self ..)) rfl rfl ?_
  simp only [List.cons_append, List.nil_append]
  refine ⟨fun n vs K' => ∃ k : Nat, vs = [nI k] ∧ k + n = p.blocks.length ∧ ∃ S', PH.le H S' ∧ Held S' K' [bx kb 4 [.bool ((p.blocks.take k).all (BlkX.may p))], bx pb 24 (prcVs p (.slice b0 p.blocks.length c0))], ⟨p.blocks.length, 0, rfl, by omega, H, PH.le_refl _, by simpa using h3⟩, ?_⟩
  rintro n vs K4 _ ⟨k, rfl, hkn, S4, l4, h4⟩
  simp only [List.cons_append, List.nil_append]
  refine ⟨fun g => ?_, fun g => ?_⟩
  rotate_left
  · simp only [ev0, ev, evV, List.cons_append, List.nil_append, List.getD_cons_zero, List.getD_cons_succ, List.map_cons, List.map_nil, iOf, bOf, sOf, pOf, slLen, slBase, cmpI, arI, Value.ite_bool, int_beq, int_bne, ite_band, ite_bor, decide_eq_false_iff_not] at g
    rw [List.take_of_length_le (by omega)] at h4
    refine den_bxLoad [.bool (p.blocks.all (BlkX.may p))] (off := 0) (by kernel_rfl) h4 (List.mem_cons_self ..) rfl rfl ?_
    refine ⟨?_, PH.le_trans l4 h4.sh⟩
    unfold mayP; rw [hh, Bool.true_and]; rfl
  simp only [ev0, ev, evV, List.cons_append, List.nil_append, List.getD_cons_zero, List.getD_cons_succ, List.map_cons, List.map_nil, iOf, bOf, sOf, pOf, slLen, slBase, cmpI, arI, Value.ite_bool, int_beq, int_bne, ite_band, ite_bor, decide_eq_true_eq] at g
  have hk : k < p.blocks.length := by omega
  obtain ⟨b, hb⟩ : ∃ b, p.blocks[k]? = some b := ⟨_, List.getElem?_eq_getElem hk⟩
  have hbl := hp.ins b (List.mem_of_getElem? hb)
  have hbe := hE b (List.mem_of_getElem? hb)
  obtain ⟨q1, _, ces, q2, q3⟩ := (hbv.le l4).get hb
  obtain ⟨iv, es, rfl, his, hes⟩ := blk_iff.1 q2
  obtain ⟨av, rfl, e1, e2, hea, e3, e4, e5⟩ := end_iff.1 hes
  obtain ⟨b2, c2, rfl⟩ := his.sl
  obtain ⟨b3, c3, rfl⟩ := hea.sl
  refine ⟨fun vs K' => vs = [] ∧ ∃ S', PH.le H S' ∧ Held S' K' [bx kb 4 [.bool ((p.blocks.take (k + 1)).all (BlkX.may p))], bx pb 24 (prcVs p (.slice b0 p.blocks.length c0))], ?_, fun _ => ?_, [.slice b2 b.ins.length c2, .int .i64 b.e.kind, .int .i64 b.e.reg, .slice b3 b.e.args.length c3, .int .i64 b.e.to, .int .i64 b.e.next, .int .i64 b.e.els], rfl, ?_, ?_⟩
  · rintro vs K' _ ⟨rfl, S', l', h'⟩
    refine ⟨_, lookup_hit, n - 1, by omega, k + 1, ?_, by omega, S', l', h'⟩
    simp only [ev0, ev, evV, List.cons_append, List.nil_append, List.getD_cons_zero, List.getD_cons_succ, List.map_cons, List.map_nil, iOf, bOf, sOf, pOf, slLen, slBase, cmpI, arI, Value.ite_bool, int_beq, int_bne, ite_band, ite_bor]; rw [w64 (by omega) (by omega)]; rfl
  · simp only [Chk.holds, ev0, ev, evV, List.cons_append, List.nil_append, List.getD_cons_zero, List.getD_cons_succ, List.map_cons, List.map_nil, iOf, bOf, sOf, pOf, slLen, slBase, cmpI, arI, Value.ite_bool, int_beq, int_bne, ite_band, ite_bor]; exact ⟨q1, by omega, by omega⟩
  · simp only [ev0, ev, evV, List.cons_append, List.nil_append, List.getD_cons_zero, List.getD_cons_succ, List.map_cons, List.map_nil, iOf, bOf, sOf, pOf, slLen, slBase, cmpI, arI, Value.ite_bool, int_beq, int_bne, ite_band, ite_bor]; exact rowAt_le h4.sh q3
  simp only [List.cons_append, List.nil_append]
  -- the instructions
  refine ⟨fun n vs K' => ∃ j : Nat, vs = [nI j] ∧ j + n = b.ins.length ∧ ∃ S', PH.le S4 S' ∧ Held S' K' [bx kb 4 [.bool ((p.blocks.take k).all (BlkX.may p) && (b.ins.take j).all (InsX.may p))], bx pb 24 (prcVs p (.slice b0 p.blocks.length c0))], ⟨b.ins.length, 0, rfl, by omega, S4, PH.le_refl _, by simpa using h4⟩, ?_⟩
  rintro n2 vs K5 _ ⟨j, rfl, hjn, S5, l5, h5⟩
  simp only [List.cons_append, List.nil_append]
  refine ⟨fun g2 => ?_, fun g2 => ?_⟩
  · simp only [ev0, ev, evV, List.cons_append, List.nil_append, List.getD_cons_zero, List.getD_cons_succ, List.map_cons, List.map_nil, iOf, bOf, sOf, pOf, slLen, slBase, cmpI, arI, Value.ite_bool, int_beq, int_bne, ite_band, ite_bor, decide_eq_true_eq] at g2
    obtain ⟨x, hx⟩ : ∃ x, b.ins[j]? = some x := ⟨_, List.getElem?_eq_getElem (show j < b.ins.length by omega)⟩
    obtain ⟨y1, _, ycs, y2, y3⟩ := (his.le l5).get hx
    obtain ⟨arv, dv, rfl, _, x2, hya, _, _, _, hyd, _⟩ := ins_iff.1 y2
    obtain ⟨rb, rc, rfl⟩ := hya.sl
    obtain ⟨db, dc, rfl⟩ := hyd.sl
    refine ⟨fun vs K' => vs = [] ∧ ∃ S', PH.le S4 S' ∧ Held S' K' [bx kb 4 [.bool ((p.blocks.take k).all (BlkX.may p) && (b.ins.take (j + 1)).all (InsX.may p))], bx pb 24 (prcVs p (.slice b0 p.blocks.length c0))], ?_, fun _ => ?_, [txt x.op, .int .i64 x.to, .slice rb x.args.length rc, .int .i64 x.const.kind, .int .i64 x.const.int, txt x.const.text, .slice db x.const.list.length dc, .int .i64 x.num], rfl, ?_, ?_⟩
    · rintro vs K' _ ⟨rfl, S', l', h'⟩
      refine ⟨_, lookup_hit, n2 - 1, by omega, j + 1, ?_, by omega, S', l', h'⟩
      simp only [ev0, ev, evV, List.cons_append, List.nil_append, List.getD_cons_zero, List.getD_cons_succ, List.map_cons, List.map_nil, iOf, bOf, sOf, pOf, slLen, slBase, cmpI, arI, Value.ite_bool, int_beq, int_bne, ite_band, ite_bor]; rw [w64 (by omega) (by omega)]; rfl
    · simp only [Chk.holds, ev0, ev, evV, List.cons_append, List.nil_append, List.getD_cons_zero, List.getD_cons_succ, List.map_cons, List.map_nil, iOf, bOf, sOf, pOf, slLen, slBase, cmpI, arI, Value.ite_bool, int_beq, int_bne, ite_band, ite_bor]; exact ⟨y1, by omega, by omega⟩
    · simp only [ev0, ev, evV, List.cons_append, List.nil_append, List.getD_cons_zero, List.getD_cons_succ, List.map_cons, List.map_nil, iOf, bOf, sOf, pOf, slLen, slBase, cmpI, arI, Value.ite_bool, int_beq, int_bne, ite_band, ite_bor]; exact rowAt_le h5.sh y3
    simp only [List.cons_append, List.nil_append]
    refine den_callF (f := n_color_may_1) (first := #[]) (caps := #[pAt kb, pAt pb]) (by rfl) cb_color_may_1 (may1_tri p x.args (.slice rb x.args.length rc) (.slice b0 p.blocks.length c0) kb pb S5 K5 _ hya h5) ?_
    rintro e K6 ⟨rfl, h6⟩
    refine ⟨_, [], rfl, rfl, rfl, pendNil, fun g3 => ?_, fun g3 => ?_⟩
    · simp only [ev0, ev, evV, List.cons_append, List.nil_append, List.getD_cons_zero, List.getD_cons_succ, List.map_cons, List.map_nil, iOf, bOf, sOf, pOf, slLen, slBase, cmpI, arI, Value.ite_bool, int_beq, int_bne, ite_band, ite_bor, txt_neK] at g3
      have hop : x.op ≠ tieB := by simpa using g3
      refine den_hLit (α := Int) (l := [x.to]) (b := 8) [.int .i64 x.to] uIntsK elemIntK rfl (by decide) (by decide) h6 (by kernel_rfl) (.cons (csIK_mk x2) .nil) pendNil fun v7 K7 h7 _ _ => ?_
      obtain ⟨S8, s8, l8, h8⟩ := h7.freeze
      obtain ⟨b8, c8, rfl⟩ := s8.sl
      simp only [List.cons_append, List.nil_append]
      refine den_callF (f := n_color_may_1) (first := #[]) (caps := #[pAt kb, pAt pb]) (by rfl) cb_color_may_1 (may1_tri p [x.to] (.slice b8 1 c8) (.slice b0 p.blocks.length c0) kb pb S8 K7 _ s8 h8) ?_
      rintro e K9 ⟨rfl, h9⟩
      refine ⟨_, [], rfl, rfl, rfl, pendNil, _, lookup_hit, rfl, S8, PH.le_trans l5 l8, ?_⟩
      have : ((p.blocks.take k).all (BlkX.may p) && (b.ins.take (j + 1)).all (InsX.may p)) = (((p.blocks.take k).all (BlkX.may p) && (b.ins.take j).all (InsX.may p)) && x.args.all (inR p) && ([x.to] : List Int).all (inR p)) := by
        rw [all_take _ hx]; unfold InsX.may
        rw [decide_eq_false hop]; simp [Bool.and_assoc]
      rw [this]; exact h9
    · simp only [ev0, ev, evV, List.cons_append, List.nil_append, List.getD_cons_zero, List.getD_cons_succ, List.map_cons, List.map_nil, iOf, bOf, sOf, pOf, slLen, slBase, cmpI, arI, Value.ite_bool, int_beq, int_bne, ite_band, ite_bor, txt_neK] at g3
      have hop : x.op = tieB := by simpa using g3
      refine ⟨_, lookup_hit, rfl, S5, l5, ?_⟩
      have : ((p.blocks.take k).all (BlkX.may p) && (b.ins.take (j + 1)).all (InsX.may p)) = (((p.blocks.take k).all (BlkX.may p) && (b.ins.take j).all (InsX.may p)) && x.args.all (inR p)) := by
        rw [all_take _ hx]; unfold InsX.may
        rw [decide_eq_true hop]; simp [Bool.and_assoc]
      rw [this]; exact h6
  -- the end
  simp only [ev0, ev, evV, List.cons_append, List.nil_append, List.getD_cons_zero, List.getD_cons_succ, List.map_cons, List.map_nil, iOf, bOf, sOf, pOf, slLen, slBase, cmpI, arI, Value.ite_bool, int_beq, int_bne, ite_band, ite_bor, decide_eq_false_iff_not] at g2
  rw [List.take_of_length_le (l := b.ins) (by omega)] at h5
  have hall : (p.blocks.take (k + 1)).all (BlkX.may p) = (((p.blocks.take k).all (BlkX.may p) && b.ins.all (InsX.may p)) && b.e.uses.all (inR p)) := by
    rw [all_take _ hb]; unfold BlkX.may; rw [Bool.and_assoc]
  have hea5 := hea.le l5
  refine ⟨fun vs K => K = K5 ∧ vs = [.bool (decide (b.e.kind = 1 ∨ b.e.kind = 2 ∨ b.e.kind = 5))], ?_, fun g => ?_, fun g => ?_⟩
  · rintro vs K _ ⟨rfl, rfl⟩
    simp only [List.cons_append, List.nil_append]
    refine ⟨fun g => ?_, fun g => ⟨fun g2 => ?_, fun g2 => ⟨fun g3 => ?_, fun g3 => ⟨fun g4 => ?_, fun g4 => ?_⟩⟩⟩⟩
    · simp only [ev0, ev, evV, List.cons_append, List.nil_append, List.getD_cons_zero, List.getD_cons_succ, List.map_cons, List.map_nil, iOf, bOf, sOf, pOf, slLen, slBase, cmpI, arI, Value.ite_bool, int_beq, int_bne, ite_band, ite_bor, decide_eq_true_eq] at g
      have hu : b.e.uses = [b.e.reg] := by rw [uses_kind, if_pos g]
      refine den_hLit (α := Int) (l := [b.e.reg]) (b := 8) [.int .i64 b.e.reg] uIntsK elemIntK rfl (by decide) (by decide) h5 (by kernel_rfl) (.cons (csIK_mk e2) .nil) pendNil fun v7 K7 h7 _ _ => ?_
      obtain ⟨S8, s8, l8, h8⟩ := h7.freeze
      obtain ⟨b8, c8, rfl⟩ := s8.sl
      simp only [List.cons_append, List.nil_append]
      refine den_callF (f := n_color_may_1) (first := #[]) (caps := #[pAt kb, pAt pb]) (by rfl) cb_color_may_1 (may1_tri p [b.e.reg] (.slice b8 1 c8) (.slice b0 p.blocks.length c0) kb pb S8 K7 _ s8 h8) ?_
      rintro e K9 ⟨rfl, h9⟩
      exact ⟨_, [], rfl, rfl, rfl, pendNil, _, lookup_skip rfl lookup_hit, rfl, S8, PH.le_trans l4 (PH.le_trans l5 l8), by rw [hall, hu]; exact h9⟩
    · simp only [ev0, ev, evV, List.cons_append, List.nil_append, List.getD_cons_zero, List.getD_cons_succ, List.map_cons, List.map_nil, iOf, bOf, sOf, pOf, slLen, slBase, cmpI, arI, Value.ite_bool, int_beq, int_bne, ite_band, ite_bor, decide_eq_false_iff_not] at g
      simp only [ev0, ev, evV, List.cons_append, List.nil_append, List.getD_cons_zero, List.getD_cons_succ, List.map_cons, List.map_nil, iOf, bOf, sOf, pOf, slLen, slBase, cmpI, arI, Value.ite_bool, int_beq, int_bne, ite_band, ite_bor, decide_eq_true_eq] at g2
      have hu : b.e.uses = [b.e.reg] ++ b.e.args := by rw [uses_kind, if_neg g, if_pos g2]
      refine den_hLit (α := Int) (l := [b.e.reg]) (b := 8) [.int .i64 b.e.reg] uIntsK elemIntK rfl (by decide) (by decide) h5 (by kernel_rfl) (.cons (csIK_mk e2) .nil) pendNil fun v6 K6 h6 _ _ => ?_
      refine den_hApp (b := 8) (more := b.e.args) uIntsK elemIntK (by kernel_rfl) (by kernel_rfl) h6 (hea5.srcS h6.sh) (by simp only [maxLen, List.length_cons, List.length_nil]; omega) (by simp only [List.length_cons, List.length_nil]; omega) fun v7 K7 h7 _ => ⟨pendNil, ?_⟩
      obtain ⟨S8, s8, l8, h8⟩ := h7.freeze
      obtain ⟨b8, c8, rfl⟩ := s8.sl
      simp only [List.cons_append, List.nil_append]
      refine den_callF (f := n_color_may_1) (first := #[]) (caps := #[pAt kb, pAt pb]) (by rfl) cb_color_may_1 (may1_tri p ([b.e.reg] ++ b.e.args) (.slice b8 ([b.e.reg] ++ b.e.args).length c8) (.slice b0 p.blocks.length c0) kb pb S8 K7 _ s8 h8) ?_
      rintro e K9 ⟨rfl, h9⟩
      exact ⟨_, [], rfl, rfl, rfl, pendNil, _, lookup_skip rfl lookup_hit, rfl, S8, PH.le_trans l4 (PH.le_trans l5 l8), by rw [hall, hu]; exact h9⟩
    · simp only [ev0, ev, evV, List.cons_append, List.nil_append, List.getD_cons_zero, List.getD_cons_succ, List.map_cons, List.map_nil, iOf, bOf, sOf, pOf, slLen, slBase, cmpI, arI, Value.ite_bool, int_beq, int_bne, ite_band, ite_bor, decide_eq_false_iff_not] at g g2
      simp only [ev0, ev, evV, List.cons_append, List.nil_append, List.getD_cons_zero, List.getD_cons_succ, List.map_cons, List.map_nil, iOf, bOf, sOf, pOf, slLen, slBase, cmpI, arI, Value.ite_bool, int_beq, int_bne, ite_band, ite_bor, decide_eq_true_eq] at g3
      have hu : b.e.uses = [b.e.reg, b.e.to] ++ b.e.args := by rw [uses_kind, if_neg g, if_neg g2, if_pos g3]
      refine den_hLit (α := Int) (l := [b.e.reg, b.e.to]) (b := 8) [.int .i64 b.e.reg, .int .i64 b.e.to] uIntsK elemIntK rfl (by decide) (by decide) h5 (by kernel_rfl) (.cons (csIK_mk e2) (.cons (csIK_mk e3) .nil)) pendNil fun v6 K6 h6 _ _ => ?_
      refine den_hApp (b := 8) (more := b.e.args) uIntsK elemIntK (by kernel_rfl) (by kernel_rfl) h6 (hea5.srcS h6.sh) (by simp only [maxLen, List.length_cons, List.length_nil]; omega) (by simp only [List.length_cons, List.length_nil]; omega) fun v7 K7 h7 _ => ⟨pendNil, ?_⟩
      obtain ⟨S8, s8, l8, h8⟩ := h7.freeze
      obtain ⟨b8, c8, rfl⟩ := s8.sl
      simp only [List.cons_append, List.nil_append]
      refine den_callF (f := n_color_may_1) (first := #[]) (caps := #[pAt kb, pAt pb]) (by rfl) cb_color_may_1 (may1_tri p ([b.e.reg, b.e.to] ++ b.e.args) (.slice b8 ([b.e.reg, b.e.to] ++ b.e.args).length c8) (.slice b0 p.blocks.length c0) kb pb S8 K7 _ s8 h8) ?_
      rintro e K9 ⟨rfl, h9⟩
      exact ⟨_, [], rfl, rfl, rfl, pendNil, _, lookup_skip rfl lookup_hit, rfl, S8, PH.le_trans l4 (PH.le_trans l5 l8), by rw [hall, hu]; exact h9⟩
    · simp only [ev0, ev, evV, List.cons_append, List.nil_append, List.getD_cons_zero, List.getD_cons_succ, List.map_cons, List.map_nil, iOf, bOf, sOf, pOf, slLen, slBase, cmpI, arI, Value.ite_bool, int_beq, int_bne, ite_band, ite_bor, decide_eq_false_iff_not] at g g2 g3
      simp only [ev0, ev, evV, List.cons_append, List.nil_append, List.getD_cons_zero, List.getD_cons_succ, List.map_cons, List.map_nil, iOf, bOf, sOf, pOf, slLen, slBase, cmpI, arI, Value.ite_bool, int_beq, int_bne, ite_band, ite_bor, decide_eq_true_eq] at g4
      have hu : b.e.uses = [b.e.reg, b.e.to] := by rw [uses_kind, if_neg g, if_neg g2, if_neg g3, if_pos g4]
      refine den_hLit (α := Int) (l := [b.e.reg, b.e.to]) (b := 8) [.int .i64 b.e.reg, .int .i64 b.e.to] uIntsK elemIntK rfl (by decide) (by decide) h5 (by kernel_rfl) (.cons (csIK_mk e2) (.cons (csIK_mk e3) .nil)) pendNil fun v7 K7 h7 _ _ => ?_
      obtain ⟨S8, s8, l8, h8⟩ := h7.freeze
      obtain ⟨b8, c8, rfl⟩ := s8.sl
      simp only [List.cons_append, List.nil_append]
      refine den_callF (f := n_color_may_1) (first := #[]) (caps := #[pAt kb, pAt pb]) (by rfl) cb_color_may_1 (may1_tri p [b.e.reg, b.e.to] (.slice b8 2 c8) (.slice b0 p.blocks.length c0) kb pb S8 K7 _ s8 h8) ?_
      rintro e K9 ⟨rfl, h9⟩
      exact ⟨_, [], rfl, rfl, rfl, pendNil, _, lookup_skip rfl lookup_hit, rfl, S8, PH.le_trans l4 (PH.le_trans l5 l8), by rw [hall, hu]; exact h9⟩
    · simp only [ev0, ev, evV, List.cons_append, List.nil_append, List.getD_cons_zero, List.getD_cons_succ, List.map_cons, List.map_nil, iOf, bOf, sOf, pOf, slLen, slBase, cmpI, arI, Value.ite_bool, int_beq, int_bne, ite_band, ite_bor, decide_eq_false_iff_not] at g g2 g3 g4
      have hu : b.e.uses = [] := by rw [uses_kind, if_neg g, if_neg g2, if_neg g3, if_neg g4]
      exact ⟨_, lookup_skip rfl lookup_hit, rfl, S5, PH.le_trans l4 l5, by rw [hall, hu, List.all_nil, Bool.and_true]; exact h5⟩
  · simp only [ev0, ev, evV, List.cons_append, List.nil_append, List.getD_cons_zero, List.getD_cons_succ, List.map_cons, List.map_nil, iOf, bOf, sOf, pOf, slLen, slBase, cmpI, arI, Value.ite_bool, int_beq, int_bne, ite_band, ite_bor, decide_eq_true_eq] at g
    refine ⟨_, lookup_hit, rfl, ?_⟩
    simp [ev0, ev, evV, List.cons_append, List.nil_append, List.getD_cons_zero, List.getD_cons_succ, List.map_cons, List.map_nil, iOf, bOf, sOf, pOf, slLen, slBase, cmpI, arI, Value.ite_bool, int_beq, int_bne, ite_band, ite_bor, g]
  · simp only [ev0, ev, evV, List.cons_append, List.nil_append, List.getD_cons_zero, List.getD_cons_succ, List.map_cons, List.map_nil, iOf, bOf, sOf, pOf, slLen, slBase, cmpI, arI, Value.ite_bool, int_beq, int_bne, ite_band, ite_bor, decide_eq_false_iff_not] at g
    refine ⟨_, lookup_hit, rfl, ?_⟩
    by_cases h2 : b.e.kind = 2 <;> by_cases h5 : b.e.kind = 5 <;> simp [ev0, ev, evV, List.cons_append, List.nil_append, List.getD_cons_zero, List.getD_cons_succ, List.map_cons, List.map_nil, iOf, bOf, sOf, pOf, slLen, slBase, cmpI, arI, Value.ite_bool, int_beq, int_bne, ite_band, ite_bor, g, h2, h5]
end Go.Proofs.Ytlbbmcpppfiplaa.Vc
/-
  COLOUR: what fills registers, by the document.
-/
namespace Go.Proofs.Ytlbbmcpppfiplaa.Vc
open Go

structure FillX where
  to : Int
  of : Int
  live : List Int
instance encFill : Enc FillX := ⟨fun f => [.int .i64 f.to, .int .i64 f.of, slp f.live], 3, fun _ => rfl⟩
theorem fill_iff {H : PH} {f : FillX} {cs : List Value} : CsR H f cs ↔ ∃ lv, cs = [.int .i64 f.to, .int .i64 f.of, lv] ∧ InI f.to ∧ InI f.of ∧ SlR H f.live lv := by
  show PV.RepRow H [_, _, _] cs ↔ _
  simp only [PV.RepRow, repI_iff]
  constructor
  · rintro ⟨v1, _, rfl, ⟨rfl, h1⟩, v2, _, rfl, ⟨rfl, h2⟩, v3, _, rfl, h3, rfl⟩
    exact ⟨v3, rfl, h1, h2, h3⟩
  · rintro ⟨v3, rfl, h1, h2, h3⟩
    exact ⟨_, _, rfl, ⟨rfl, h1⟩, _, _, rfl, ⟨rfl, h2⟩, _, _, rfl, h3, rfl⟩
def moveB : List UInt8 := [109, 111, 118, 101]
theorem txt_eqM (l : List UInt8) : cmpS .eql ⟨l.toArray⟩ ⟨#[109, 111, 118, 101]⟩ = decide (l = moveB) := by
  show ((⟨l.toArray⟩ : ByteArray).toList == (⟨moveB.toArray⟩ : ByteArray).toList) = _
  rw [txt_eq]
theorem txt_neM (l : List UInt8) : cmpS .neq ⟨l.toArray⟩ ⟨#[109, 111, 118, 101]⟩ = !decide (l = moveB) := by
  show (!((⟨l.toArray⟩ : ByteArray).toList == (⟨moveB.toArray⟩ : ByteArray).toList)) = _
  rw [txt_eq]
/-- those of l that are not in m -/
def lessL (l m : List Int) : List Int := l.filter fun r => decide (r ∉ m)
noncomputable def insFill (p : PrcX) (i j : Nat) (x : InsX) : List FillX := if x.op = tieB then [] else [⟨x.to, -1, if x.op = moveB then lessL (liveL p i (j + 1)) x.args else liveL p i (j + 1)⟩]
noncomputable def insFills (p : PrcX) (i : Nat) (b : BlkX) (k : Nat) : List FillX := (List.range k).flatMap fun j => match b.ins[j]? with
  | some x => insFill p i j x
  | none => []
noncomputable def blkFill (p : PrcX) (i : Nat) (b : BlkX) : List FillX := insFills p i b b.ins.length ++ if b.e.calls then [⟨b.e.to, -1, acrossL p (i : Int)⟩] else []
noncomputable def fillsTo (p : PrcX) (k : Nat) : List FillX := (List.range k).flatMap fun i => match p.blocks[i]? with
  | some b => blkFill p i b
  | none => []
noncomputable def fillsL (p : PrcX) : List FillX := fillsTo p p.blocks.length
theorem insFills_step {p : PrcX} {i j : Nat} {b : BlkX} {x : InsX} (h : b.ins[j]? = some x) : insFills p i b (j + 1) = insFills p i b j ++ insFill p i j x := by
  unfold insFills; rw [List.range_succ, List.flatMap_append]; simp [h]
theorem fillsTo_step {p : PrcX} {k : Nat} {b : BlkX} (h : p.blocks[k]? = some b) : fillsTo p (k + 1) = fillsTo p k ++ blkFill p k b := by
  unfold fillsTo; rw [List.range_succ, List.flatMap_append]; simp [h]
theorem insFill_len (p : PrcX) (i j : Nat) (x : InsX) : (insFill p i j x).length ≤ 1 := by unfold insFill; split <;> simp
theorem insFills_len (p : PrcX) (i : Nat) (b : BlkX) : ∀ k, (insFills p i b k).length ≤ k
  | 0 => by simp [insFills]
  | k + 1 => by
    have := insFills_len p i b k
    unfold insFills at *
    rw [List.range_succ, List.flatMap_append, List.length_append]
    have : ((List.flatMap (fun j => match b.ins[j]? with | some x => insFill p i j x | none => []) [k])).length ≤ 1 := by
      simp only [List.flatMap_cons, List.flatMap_nil, List.append_nil]
      split
      · exact insFill_len p i k _
      · simp
    omega
theorem blkFill_len (p : PrcX) (i : Nat) (b : BlkX) : (blkFill p i b).length ≤ b.ins.length + 1 := by
  have := insFills_len p i b b.ins.length
  unfold blkFill
  rw [List.length_append]
  have : (if b.e.calls = true then [(⟨b.e.to, -1, acrossL p (i : Int)⟩ : FillX)] else []).length ≤ 1 := by split <;> simp
  omega
theorem sumWt_take {α : Type} (f : α → Nat) {l : List α} {k : Nat} {a : α} (h : l[k]? = some a) : sumWt f (l.take (k + 1)) = sumWt f (l.take k) + f a := by
  induction l generalizing k with
  | nil => simp at h
  | cons b l ih =>
    cases k with
    | zero => simp at h; subst h; simp [sumWt]
    | succ k =>
      have := ih (k := k) (by simpa using h)
      simp only [List.take_succ_cons, sumWt] at this ⊢
      omega
theorem sumWt_take_le {α : Type} (f : α → Nat) : ∀ (l : List α) (k : Nat), sumWt f (l.take k) ≤ sumWt f l
  | [], k => by simp
  | a :: l, 0 => by simp [sumWt]
  | a :: l, k + 1 => by
    have := sumWt_take_le f l k
    simp only [List.take_succ_cons, sumWt]; omega
theorem BlkX.ins_wt (b : BlkX) : b.ins.length + 1 ≤ b.wt := by
  have h3 := sumWt_len1 InsX.wt (fun x => by have := x.args_wt; omega) b.ins
  have h4 : b.wt = sumWt InsX.wt b.ins + 1 + b.e.wt := rfl
  omega
theorem fillsTo_len (p : PrcX) : ∀ k, k ≤ p.blocks.length → (fillsTo p k).length ≤ sumWt BlkX.wt (p.blocks.take k)
  | 0, _ => by simp [fillsTo]
  | k + 1, h => by
    obtain ⟨b, hb⟩ : ∃ b, p.blocks[k]? = some b := ⟨_, List.getElem?_eq_getElem (show k < p.blocks.length by omega)⟩
    have := fillsTo_len p k (by omega)
    have := blkFill_len p k b
    have := b.ins_wt
    rw [fillsTo_step hb, List.length_append, sumWt_take BlkX.wt hb]; omega
theorem uFillsK : Try.prog.underlying 89 = some (.slice 92) := by kernel_rfl
theorem elemFillK : ElemOk Try.prog 92 3 40 = true := by kernel_rfl
theorem without_tri (l m : List Int) (lv mv : Value) (S : PH) (hl : SlR S l lv) (hm : SlR S m mv) (hll : l.length ≤ 4000000) :
    Tri Try.prog n_scrimshawref18_without #[lv, mv] S fun x S' => PH.le S S' ∧ ∃ v, x = .returned v ∧ SlR S' (lessL l m) v := by
  obtain ⟨b0, c0, rfl⟩ := hl.sl
  obtain ⟨b1, c1, rfl⟩ := hm.sl
  refine tri_scrimshawref18_without [.slice b0 l.length c0, .slice b1 m.length c1] (by kernel_rfl) (by kernel_rfl) ?_
  refine den_hLit0 (α := Int) (b := 8) uIntsK elemIntK (Held.nil (PH.le_refl S)) pendNil fun v1 K1 h1 _ _ => ?_
  refine ⟨fun n vs K => ∃ (k : Nat) (v : Value) (S' : PH), vs = [v, nI k] ∧ k + n = l.length ∧ PH.le S S' ∧ Held S' K [orow 3 (lessL (l.take k) m) v], ⟨l.length, 0, v1, S, rfl, by omega, PH.le_refl S, by simpa [lessL] using h1⟩, ?_⟩
  rintro n vs K _ ⟨k, v, S1, rfl, hkn, l1, h2⟩
  refine ⟨fun g => ?_, fun g => ?_⟩
  · simp only [ev0, ev, evV, List.cons_append, List.nil_append, List.getD_cons_zero, List.getD_cons_succ, List.map_cons, List.map_nil, iOf, bOf, sOf, pOf, slLen, slBase, cmpI, arI, Value.ite_bool, int_beq, int_bne, ite_band, ite_bor, decide_eq_true_eq] at g
    obtain ⟨r, hr⟩ : ∃ r, l[k]? = some r := ⟨_, List.getElem?_eq_getElem (show k < l.length by omega)⟩
    have hst : lessL (l.take (k + 1)) m = lessL (l.take k) m ++ if r ∉ m then [r] else [] := by
      unfold lessL
      rw [List.take_add_one, hr, List.filter_append]
      congr 1
      by_cases hd : r ∈ m <;> simp [List.filter_cons, hd]
    have hfl : (lessL (l.take k) m).length ≤ k := Nat.le_trans (List.length_filter_le _ _) (by rw [List.length_take]; omega)
    obtain ⟨q1, _, ces, q2, q3⟩ := (hl.le l1).get hr
    obtain ⟨rfl, hri⟩ := csIK q2
    have rd : ∀ {K' : PH}, PH.le S1 K' → rowAt K' (pOf (eltV (.slice b0 l.length c0) (k : Int) 1)) [.int .i64 r] := fun h => rowAt_le h q3
    refine ⟨fun vs K' => ∃ v S', vs = [v] ∧ PH.le S1 S' ∧ Held S' K' [orow 3 (lessL (l.take (k + 1)) m) v], ?_, fun _ => ?_, [.int .i64 r], rfl, ?_, ?_⟩
    · rintro vs K3 _ ⟨v3, S3, rfl, l3, h3⟩
      refine ⟨_, lookup_hit, n - 1, by omega, k + 1, v3, S3, ?_, by omega, PH.le_trans l1 l3, h3⟩
      simp only [ev0, ev, evV, List.cons_append, List.nil_append, List.getD_cons_zero, List.getD_cons_succ, List.map_cons, List.map_nil, iOf, bOf, sOf, pOf, slLen, slBase, cmpI, arI, Value.ite_bool, int_beq, int_bne, ite_band, ite_bor]
      rw [w64 (by omega) (by omega)]; rfl
    · simp only [Chk.holds, ev0, ev, evV, List.cons_append, List.nil_append, List.getD_cons_zero, List.getD_cons_succ, List.map_cons, List.map_nil, iOf, bOf, sOf, pOf, slLen, slBase, cmpI, arI, Value.ite_bool, int_beq, int_bne, ite_band, ite_bor]; exact ⟨q1, by omega, by omega⟩
    · simp only [ev0, ev, evV, List.cons_append, List.nil_append, List.getD_cons_zero, List.getD_cons_succ, List.map_cons, List.map_nil, iOf, bOf, sOf, pOf, slLen, slBase, cmpI, arI, Value.ite_bool, int_beq, int_bne, ite_band, ite_bor]; exact rd h2.sh
    refine den_gives [.bool (decide (r ∈ m))] cb_scrimshawref17_Has (Has17_gives m r _ K ((hm.le l1).le h2.sh)) rfl pendNil fun K3 l3 => ⟨fun g2 => ?_, fun g2 => ?_⟩
    · simp only [ev0, ev, evV, List.cons_append, List.nil_append, List.getD_cons_zero, List.getD_cons_succ, List.map_cons, List.map_nil, iOf, bOf, sOf, pOf, slLen, slBase, cmpI, arI, Value.ite_bool, int_beq, int_bne, ite_band, ite_bor] at g2
      have hno : r ∉ m := by simpa using g2
      have h3 := h2.le l3
      refine ⟨[.int .i64 r], rfl, ?_, ?_⟩
      · simp only [ev0, ev, evV, List.cons_append, List.nil_append, List.getD_cons_zero, List.getD_cons_succ, List.map_cons, List.map_nil, iOf, bOf, sOf, pOf, slLen, slBase, cmpI, arI, Value.ite_bool, int_beq, int_bne, ite_band, ite_bor]; exact rd h3.sh
      refine den_hPush (more := [r]) (b := 8) [.int .i64 r] uIntsK elemIntK rfl (by decide) (by decide) h3 (by kernel_rfl) (.cons (csIK_mk hri) .nil) pendNil (fun _ => by kernel_rfl) (fun _ => by kernel_rfl)
        (by simp only [maxLen, List.length_cons, List.length_nil]; omega) (by simp only [List.length_cons, List.length_nil]; omega) fun u v' S4 K4 l4 h4 => ⟨pendNil, _, lookup_hit, v', S4, rfl, l4, by rw [hst, if_pos hno]; exact h4⟩
    · simp only [ev0, ev, evV, List.cons_append, List.nil_append, List.getD_cons_zero, List.getD_cons_succ, List.map_cons, List.map_nil, iOf, bOf, sOf, pOf, slLen, slBase, cmpI, arI, Value.ite_bool, int_beq, int_bne, ite_band, ite_bor] at g2
      have hyes : r ∈ m := by simpa using g2
      exact ⟨_, lookup_hit, v, S1, rfl, PH.le_refl _, by rw [hst, if_neg (fun h => h hyes), List.append_nil]; exact h2.le l3⟩
  · simp only [ev0, ev, evV, List.cons_append, List.nil_append, List.getD_cons_zero, List.getD_cons_succ, List.map_cons, List.map_nil, iOf, bOf, sOf, pOf, slLen, slBase, cmpI, arI, Value.ite_bool, int_beq, int_bne, ite_band, ite_bor, decide_eq_false_iff_not] at g
    rw [List.take_of_length_le (by omega)] at h2
    obtain ⟨S3, s3, l3, h3⟩ := h2.freeze
    exact ⟨PH.le_trans l1 (PH.le_trans l3 h3.sh), v, rfl, s3.le h3.sh⟩
theorem acrossL_len {p : PrcX} (hp : p.Fit) (i : Int) : (acrossL p i).length ≤ 2000000 := by
  unfold acrossL
  split
  · split
    · exact Nat.le_trans (List.length_filter_le _ _) (liveL_len hp _ _)
    · simp
  · simp
set_option maxHeartbeats 2000000 in
theorem Fills_tri (p : PrcX) (bv : Value) (S : PH) (hbv : SlR S p.blocks bv) (hw : p.wt ≤ 1048576) :
    Tri Try.prog n_scrimshawref18_fills #[.agg (prcVs p bv).toArray] S fun x S' => PH.le S S' ∧ ∃ v, x = .returned v ∧ SlR S' (fillsL p) v := by
  obtain ⟨hp, hE⟩ := PrcX.fit_wt hw
  have hN := hp.n
  have hpw : p.wt = 1 + 1 + 1 + (sumWt BlkX.wt p.blocks + 1) := rfl
  obtain ⟨b0, c0, rfl⟩ := hbv.sl
  refine tri_scrimshawref18_fills (prcVs p (.slice b0 p.blocks.length c0)) (by kernel_rfl) (by kernel_rfl) ?_
  simp only [prcVs]
  refine den_hLit0 (α := FillX) (b := 40) uFillsK elemFillK (Held.nil (PH.le_refl S)) pendNil fun v1 K1 h1 _ _ => ?_
  refine den_call cb_scrimshawref17_Read (h1.pure (R := fun x S' => ∃ v, x = .returned v ∧ SlR S' (readL p) v) (Read17_tri p (.slice b0 p.blocks.length c0) S hbv hp.regs)) ?_
  rintro x K2 ⟨S2, l2, h2, rv, rfl, hrv⟩
  obtain ⟨b1, c1, rfl⟩ := hrv.sl
  refine ⟨_, [.slice b1 (readL p).length c1], rfl, rfl, rfl, pendNil, ?_⟩
  simp only [List.cons_append, List.nil_append]
  have hbv2 := hbv.le l2
  refine ⟨fun n vs K => ∃ (k : Nat) (v : Value) (S' : PH), vs = [v, nI k] ∧ k + n = p.blocks.length ∧ PH.le S2 S' ∧ Held S' K [orow 92 (fillsTo p k) v], ⟨p.blocks.length, 0, v1, S2, rfl, by omega, PH.le_refl _, by simpa [fillsTo] using h2⟩, ?_⟩
  rintro n vs K3 _ ⟨k, v, S3, rfl, hkn, l3, h3⟩
  simp only [List.cons_append, List.nil_append]
  refine ⟨fun g => ?_, fun g => ?_⟩
  rotate_left
  · simp only [ev0, ev, evV, List.cons_append, List.nil_append, List.getD_cons_zero, List.getD_cons_succ, List.map_cons, List.map_nil, iOf, bOf, sOf, pOf, slLen, slBase, cmpI, arI, Value.ite_bool, int_beq, int_bne, ite_band, ite_bor, decide_eq_false_iff_not] at g
    have : k = p.blocks.length := by omega
    subst this
    obtain ⟨S4, s4, l4, h4⟩ := h3.freeze
    exact ⟨PH.le_trans l2 (PH.le_trans l3 (PH.le_trans l4 h4.sh)), v, rfl, s4.le h4.sh⟩
  simp only [ev0, ev, evV, List.cons_append, List.nil_append, List.getD_cons_zero, List.getD_cons_succ, List.map_cons, List.map_nil, iOf, bOf, sOf, pOf, slLen, slBase, cmpI, arI, Value.ite_bool, int_beq, int_bne, ite_band, ite_bor, decide_eq_true_eq] at g
  have hk : k < p.blocks.length := by omega
  obtain ⟨b, hb⟩ : ∃ b, p.blocks[k]? = some b := ⟨_, List.getElem?_eq_getElem hk⟩
  have hbl := hp.ins b (List.mem_of_getElem? hb)
  have hft := fillsTo_len p k (by omega)
  have hst := sumWt_take BlkX.wt hb
  have hst2 := sumWt_take_le BlkX.wt p.blocks (k + 1)
  have hbi := b.ins_wt
  obtain ⟨q1, _, ces, q2, q3⟩ := (hbv2.le l3).get hb
  obtain ⟨iv, es, rfl, his, hes⟩ := blk_iff.1 q2
  obtain ⟨av, rfl, e1, e2, hea, e3, e4, e5⟩ := end_iff.1 hes
  obtain ⟨b2, c2, rfl⟩ := his.sl
  obtain ⟨b3, c3, rfl⟩ := hea.sl
  refine ⟨fun vs K' => ∃ v S', vs = [v] ∧ PH.le S3 S' ∧ Held S' K' [orow 92 (fillsTo p (k + 1)) v], ?_, fun _ => ?_, [.slice b2 b.ins.length c2, .int .i64 b.e.kind, .int .i64 b.e.reg, .slice b3 b.e.args.length c3, .int .i64 b.e.to, .int .i64 b.e.next, .int .i64 b.e.els], rfl, ?_, ?_⟩
  · rintro vs K' _ ⟨v', S', rfl, l', h'⟩
    refine ⟨_, lookup_hit, n - 1, by omega, k + 1, v', S', ?_, by omega, PH.le_trans l3 l', h'⟩
    simp only [ev0, ev, evV, List.cons_append, List.nil_append, List.getD_cons_zero, List.getD_cons_succ, List.map_cons, List.map_nil, iOf, bOf, sOf, pOf, slLen, slBase, cmpI, arI, Value.ite_bool, int_beq, int_bne, ite_band, ite_bor]; rw [w64 (by omega) (by omega)]; rfl
  · simp only [Chk.holds, ev0, ev, evV, List.cons_append, List.nil_append, List.getD_cons_zero, List.getD_cons_succ, List.map_cons, List.map_nil, iOf, bOf, sOf, pOf, slLen, slBase, cmpI, arI, Value.ite_bool, int_beq, int_bne, ite_band, ite_bor]; exact ⟨q1, by omega, by omega⟩
  · simp only [ev0, ev, evV, List.cons_append, List.nil_append, List.getD_cons_zero, List.getD_cons_succ, List.map_cons, List.map_nil, iOf, bOf, sOf, pOf, slLen, slBase, cmpI, arI, Value.ite_bool, int_beq, int_bne, ite_band, ite_bor]; exact rowAt_le h3.sh q3
  simp only [List.cons_append, List.nil_append]
  refine ⟨fun n vs K' => ∃ (j : Nat) (v : Value) (S' : PH), vs = [v, nI j] ∧ j + n = b.ins.length ∧ PH.le S3 S' ∧ Held S' K' [orow 92 (fillsTo p k ++ insFills p k b j) v], ⟨b.ins.length, 0, v, S3, rfl, by omega, PH.le_refl _, by simpa [insFills] using h3⟩, ?_⟩
  rintro n2 vs K4 _ ⟨j, v4, S4, rfl, hjn, l4, h4⟩
  simp only [List.cons_append, List.nil_append]
  have hil := insFills_len p k b j
  refine ⟨fun g2 => ?_, fun g2 => ?_⟩
  · simp only [ev0, ev, evV, List.cons_append, List.nil_append, List.getD_cons_zero, List.getD_cons_succ, List.map_cons, List.map_nil, iOf, bOf, sOf, pOf, slLen, slBase, cmpI, arI, Value.ite_bool, int_beq, int_bne, ite_band, ite_bor, decide_eq_true_eq] at g2
    obtain ⟨x, hx⟩ : ∃ x, b.ins[j]? = some x := ⟨_, List.getElem?_eq_getElem (show j < b.ins.length by omega)⟩
    obtain ⟨y1, _, ycs, y2, y3⟩ := (his.le l4).get hx
    obtain ⟨arv, dv, rfl, _, x2, hya, _, _, _, hyd, _⟩ := ins_iff.1 y2
    obtain ⟨rb, rc, rfl⟩ := hya.sl
    obtain ⟨db, dc, rfl⟩ := hyd.sl
    refine ⟨fun vs K' => ∃ v S', vs = [v] ∧ PH.le S4 S' ∧ Held S' K' [orow 92 (fillsTo p k ++ insFills p k b (j + 1)) v], ?_, fun _ => ?_, [txt x.op, .int .i64 x.to, .slice rb x.args.length rc, .int .i64 x.const.kind, .int .i64 x.const.int, txt x.const.text, .slice db x.const.list.length dc, .int .i64 x.num], rfl, ?_, ?_⟩
    · rintro vs K' _ ⟨v', S', rfl, l', h'⟩
      refine ⟨_, lookup_hit, n2 - 1, by omega, j + 1, v', S', ?_, by omega, PH.le_trans l4 l', h'⟩
      simp only [ev0, ev, evV, List.cons_append, List.nil_append, List.getD_cons_zero, List.getD_cons_succ, List.map_cons, List.map_nil, iOf, bOf, sOf, pOf, slLen, slBase, cmpI, arI, Value.ite_bool, int_beq, int_bne, ite_band, ite_bor]; rw [w64 (by omega) (by omega)]; rfl
    · simp only [Chk.holds, ev0, ev, evV, List.cons_append, List.nil_append, List.getD_cons_zero, List.getD_cons_succ, List.map_cons, List.map_nil, iOf, bOf, sOf, pOf, slLen, slBase, cmpI, arI, Value.ite_bool, int_beq, int_bne, ite_band, ite_bor]; exact ⟨y1, by omega, by omega⟩
    · simp only [ev0, ev, evV, List.cons_append, List.nil_append, List.getD_cons_zero, List.getD_cons_succ, List.map_cons, List.map_nil, iOf, bOf, sOf, pOf, slLen, slBase, cmpI, arI, Value.ite_bool, int_beq, int_bne, ite_band, ite_bor]; exact rowAt_le h4.sh y3
    simp only [List.cons_append, List.nil_append]
    refine ⟨fun g3 => ?_, fun g3 => ?_⟩
    · simp only [ev0, ev, evV, List.cons_append, List.nil_append, List.getD_cons_zero, List.getD_cons_succ, List.map_cons, List.map_nil, iOf, bOf, sOf, pOf, slLen, slBase, cmpI, arI, Value.ite_bool, int_beq, int_bne, ite_band, ite_bor, txt_eqK] at g3
      have hop : x.op = tieB := by simpa using g3
      exact ⟨_, lookup_hit, v4, S4, rfl, PH.le_refl _, by rw [insFills_step hx, insFill, if_pos hop, List.append_nil]; exact h4⟩
    simp only [ev0, ev, evV, List.cons_append, List.nil_append, List.getD_cons_zero, List.getD_cons_succ, List.map_cons, List.map_nil, iOf, bOf, sOf, pOf, slLen, slBase, cmpI, arI, Value.ite_bool, int_beq, int_bne, ite_band, ite_bor, txt_eqK] at g3
    have hop : x.op ≠ tieB := by simpa using g3
    have hlk := liveL_len hp k (j + 1)
    have hw1 : IntKind.i64.wrap ((j : Int) + 1) = ((j + 1 : Nat) : Int) := by rw [w64 (by omega) (by omega)]; rfl
    refine ⟨fun vs K' => ∃ (q : Nat) (lv : Value) (S' : PH), vs = [pAt q] ∧ PH.le S4 S' ∧ SlR S' (liveL p k (j + 1)) lv ∧ Held S' K' [bx q 92 [.int .i64 x.to, .int .i64 (-1), lv], orow 92 (fillsTo p k ++ insFills p k b j) v4], ?_, ?_, ?_⟩
    rotate_left
    · refine den_call cb_scrimshawref17_Some (R := fun x K' => ∃ S', PH.le S4 S' ∧ Held S' K' [orow 92 (fillsTo p k ++ insFills p k b j) v4] ∧ ∃ v, x = .returned v ∧ SlR S' (liveL p k (j + 1)) v) ?_ ?_
      · have := h4.pure (R := fun x S' => ∃ v, x = .returned v ∧ SlR S' (liveL p k (j + 1)) v) (Some17_tri p (readL p) (.slice b0 p.blocks.length c0) (.slice b1 (readL p).length c1) S4 (hbv2.le (PH.le_trans l3 l4)) (hrv.le (PH.le_trans l3 l4)) k (j + 1) hk (by omega) hp (Nat.le_trans (readL_len hp) (by omega)))
        simp only [ev0, ev, evV, List.cons_append, List.nil_append, List.getD_cons_zero, List.getD_cons_succ, List.map_cons, List.map_nil, iOf, bOf, sOf, pOf, slLen, slBase, cmpI, arI, Value.ite_bool, int_beq, int_bne, ite_band, ite_bor, hw1]
        exact this
      rintro y K5 ⟨S5, l5, h5, lv, rfl, hlv⟩
      obtain ⟨b5, c5, rfl⟩ := hlv.sl
      refine ⟨_, [_], rfl, rfl, rfl, pendNil, ?_⟩
      refine den_bxNew (vs := [.int .i64 0, .int .i64 0, .slice none 0 0]) h5 (by kernel_rfl) fun q K6 _ h6 => ?_
      refine den_bxStore (off := 0) (vs := [.int .i64 x.to, .int .i64 (-1), .slice b5 (liveL p k (j + 1)).length c5]) (by kernel_rfl) h6 (by kernel_rfl) (by simp [oneC]) (by simp) fun K7 h7 => ?_
      exact ⟨_, lookup_hit, q, _, S5, rfl, l5, hlv, h7⟩
    · refine den_bxNew (vs := [.int .i64 0, .int .i64 0, .slice none 0 0]) h4 (by kernel_rfl) fun q K6 _ h6 => ?_
      refine den_call cb_scrimshawref17_Some (R := fun x K' => ∃ S', PH.le S4 S' ∧ Held S' K' [bx q 92 [.int .i64 0, .int .i64 0, .slice none 0 0], orow 92 (fillsTo p k ++ insFills p k b j) v4] ∧ ∃ v, x = .returned v ∧ SlR S' (liveL p k (j + 1)) v) ?_ ?_
      · have := h6.pure (R := fun x S' => ∃ v, x = .returned v ∧ SlR S' (liveL p k (j + 1)) v) (Some17_tri p (readL p) (.slice b0 p.blocks.length c0) (.slice b1 (readL p).length c1) S4 (hbv2.le (PH.le_trans l3 l4)) (hrv.le (PH.le_trans l3 l4)) k (j + 1) hk (by omega) hp (Nat.le_trans (readL_len hp) (by omega)))
        simp only [ev0, ev, evV, List.cons_append, List.nil_append, List.getD_cons_zero, List.getD_cons_succ, List.map_cons, List.map_nil, iOf, bOf, sOf, pOf, slLen, slBase, cmpI, arI, Value.ite_bool, int_beq, int_bne, ite_band, ite_bor, hw1]
        exact this
      rintro y K7 ⟨S5, l5, h7, lv, rfl, hlv⟩
      obtain ⟨b5, c5, rfl⟩ := hlv.sl
      refine ⟨_, [_], rfl, rfl, rfl, pendNil, ?_⟩
      refine den_bxStore (off := 0) (vs := [.int .i64 x.to, .int .i64 (-1), .slice b5 (liveL p k (j + 1)).length c5]) (by kernel_rfl) h7 (by kernel_rfl) (by simp [oneC]) (by simp) fun K8 h8 => ?_
      exact ⟨_, lookup_hit, q, _, S5, rfl, l5, hlv, h8⟩
    rintro vs K5 _ ⟨q, lv, S5, rfl, l5, hlv, h5⟩
    simp only [List.cons_append, List.nil_append]
    obtain ⟨b5, c5, rfl⟩ := hlv.sl
    refine ⟨fun vs K' => ∃ (lv : Value) (l : List Int) (S' : PH), vs = [] ∧ PH.le S4 S' ∧ l = (if x.op = moveB then lessL (liveL p k (j + 1)) x.args else liveL p k (j + 1)) ∧ SlR S' l lv ∧ Held S' K' [bx q 92 [.int .i64 x.to, .int .i64 (-1), lv], orow 92 (fillsTo p k ++ insFills p k b j) v4], ?_, fun g4 => ?_, fun g4 => ?_⟩
    · rintro vs K6 _ ⟨lv6, l6, S6, rfl, le6, hl6, s6, h6⟩
      obtain ⟨b6, c6, rfl⟩ := s6.sl
      refine den_bxLoad [.int .i64 x.to, .int .i64 (-1), .slice b6 l6.length c6] (off := 0) (by kernel_rfl) h6 (List.mem_cons_self ..) rfl rfl ?_
      refine den_hPush (more := [(⟨x.to, -1, l6⟩ : FillX)]) (b := 40) [.agg ([.int .i64 x.to, .int .i64 (-1), .slice b6 l6.length c6] : List Value).toArray] uFillsK elemFillK rfl (by decide) (by decide) (h6.perm (List.Perm.swap _ _ _)) (by kernel_rfl) (.cons (fill_iff.2 ⟨_, rfl, x2, by show InI (-1); decide, s6⟩) .nil) pendNil (fun _ => by kernel_rfl) (fun _ => by kernel_rfl)
        (by simp only [maxLen, List.length_append, List.length_cons, List.length_nil]; omega) (by simp only [List.length_append, List.length_cons, List.length_nil]; omega) fun u v' S7 K7 l7 h7 => ⟨pendNil, _, lookup_hit, v', S7, rfl, PH.le_trans le6 l7, ?_⟩
      have h7 := h7.sub (J := [orow 92 ((fillsTo p k ++ insFills p k b j) ++ [(⟨x.to, -1, l6⟩ : FillX)]) v']) (by simp)
      rw [insFills_step hx, insFill, if_neg hop, ← hl6, ← List.append_assoc]
      exact h7
    · simp only [ev0, ev, evV, List.cons_append, List.nil_append, List.getD_cons_zero, List.getD_cons_succ, List.map_cons, List.map_nil, iOf, bOf, sOf, pOf, slLen, slBase, cmpI, arI, Value.ite_bool, int_beq, int_bne, ite_band, ite_bor, txt_eqM] at g4
      have hmv : x.op = moveB := by simpa using g4
      refine ⟨fun _ => rfl, ?_⟩
      refine den_bxLoad [.slice b5 (liveL p k (j + 1)).length c5] (off := 2) (by kernel_rfl) h5 (List.mem_cons_self ..) rfl rfl ?_
      refine den_call cb_scrimshawref18_without (h5.pure (R := fun y S' => ∃ v, y = .returned v ∧ SlR S' (lessL (liveL p k (j + 1)) x.args) v) (without_tri (liveL p k (j + 1)) x.args (.slice b5 (liveL p k (j + 1)).length c5) (.slice rb x.args.length rc) S5 hlv (hya.le l5) (by omega))) ?_
      rintro y K6 ⟨S6, l6, h6, wv, rfl, hwv⟩
      obtain ⟨b6, c6, rfl⟩ := hwv.sl
      refine ⟨_, [_], rfl, rfl, rfl, pendNil, ?_⟩
      refine den_bxStore (off := 2) (vs := [.slice b6 (lessL (liveL p k (j + 1)) x.args).length c6]) (by kernel_rfl) h6 (by kernel_rfl) (by simp [oneC]) (by simp) fun K7 h7 => ?_
      exact ⟨_, lookup_hit, _, _, S6, rfl, PH.le_trans l5 l6, by rw [if_pos hmv], hwv, h7⟩
    · simp only [ev0, ev, evV, List.cons_append, List.nil_append, List.getD_cons_zero, List.getD_cons_succ, List.map_cons, List.map_nil, iOf, bOf, sOf, pOf, slLen, slBase, cmpI, arI, Value.ite_bool, int_beq, int_bne, ite_band, ite_bor, txt_eqM] at g4
      have hmv : x.op ≠ moveB := by simpa using g4
      exact ⟨_, lookup_hit, _, _, S5, rfl, l5, by rw [if_neg hmv], hlv, h5⟩
  · simp only [ev0, ev, evV, List.cons_append, List.nil_append, List.getD_cons_zero, List.getD_cons_succ, List.map_cons, List.map_nil, iOf, bOf, sOf, pOf, slLen, slBase, cmpI, arI, Value.ite_bool, int_beq, int_bne, ite_band, ite_bor, decide_eq_false_iff_not] at g2
    have : j = b.ins.length := by omega
    subst this
    refine ⟨fun g3 => ?_, fun g3 => ?_⟩
    · simp only [ev0, ev, evV, List.cons_append, List.nil_append, List.getD_cons_zero, List.getD_cons_succ, List.map_cons, List.map_nil, iOf, bOf, sOf, pOf, slLen, slBase, cmpI, arI, Value.ite_bool, int_beq, int_bne, ite_band, ite_bor] at g3
      have hc : b.e.calls = true := by
        unfold EndX.calls
        simp only [Bool.or_eq_true, decide_eq_true_eq] at g3
        exact decide_eq_true g3
      refine den_call cb_scrimshawref17_Across (h4.pure (R := fun y S' => ∃ v, y = .returned v ∧ SlR S' (acrossL p (k : Int)) v) (Across17_tri p (.slice b0 p.blocks.length c0) (k : Int) S4 (hbv2.le (PH.le_trans l3 l4)) hp)) ?_
      rintro y K6 ⟨S6, l6, h6, wv, rfl, hwv⟩
      obtain ⟨b6, c6, rfl⟩ := hwv.sl
      refine ⟨_, [_], rfl, rfl, rfl, pendNil, ?_⟩
      refine den_hPush (more := [(⟨b.e.to, -1, acrossL p (k : Int)⟩ : FillX)]) (b := 40) [.agg ([.int .i64 b.e.to, .int .i64 (-1), .slice b6 (acrossL p (k : Int)).length c6] : List Value).toArray] uFillsK elemFillK rfl (by decide) (by decide) h6 (by kernel_rfl) (.cons (fill_iff.2 ⟨_, rfl, e3, by show InI (-1); decide, hwv⟩) .nil) pendNil (fun _ => by kernel_rfl) (fun _ => by kernel_rfl)
        (by simp only [maxLen, List.length_append, List.length_cons, List.length_nil]; omega) (by simp only [List.length_append, List.length_cons, List.length_nil]; omega) fun u v' S7 K7 l7 h7 => ⟨pendNil, _, lookup_skip rfl lookup_hit, v', S7, rfl, PH.le_trans l4 (PH.le_trans l6 l7), ?_⟩
      rw [fillsTo_step hb, blkFill, if_pos hc, ← List.append_assoc]
      exact h7
    · simp only [ev0, ev, evV, List.cons_append, List.nil_append, List.getD_cons_zero, List.getD_cons_succ, List.map_cons, List.map_nil, iOf, bOf, sOf, pOf, slLen, slBase, cmpI, arI, Value.ite_bool, int_beq, int_bne, ite_band, ite_bor] at g3
      have hc : ¬ b.e.calls = true := by
        unfold EndX.calls
        simp only [Bool.or_eq_false_iff, decide_eq_false_iff_not] at g3
        simp only [decide_eq_true_eq]
        omega
      refine ⟨_, lookup_skip rfl lookup_hit, v4, S4, rfl, l4, ?_⟩
      rw [fillsTo_step hb, blkFill, if_neg hc, List.append_nil]
      exact h4
end Go.Proofs.Ytlbbmcpppfiplaa.Vc
/-
  COLOUR: which registers meet, by the document: its table.
-/
namespace Go.Proofs.Ytlbbmcpppfiplaa.Vc
open Go

/-! ### one of many that are held -/
theorem perm_pick {α : Type} : ∀ {l : List α} {i : Nat} {x : α}, l[i]? = some x → (x :: l.eraseIdx i).Perm l
  | [], i, x, h => by simp at h
  | a :: l, 0, x, h => by simp at h; subst h; exact List.Perm.refl _
  | a :: l, i + 1, x, h => by
    have := perm_pick (l := l) (i := i) (x := x) (by simpa using h)
    exact (List.Perm.swap a x _).trans (this.cons a)
theorem perm_put {α : Type} {x : α} : ∀ {l : List α} {i : Nat}, i < l.length → (x :: l.eraseIdx i).Perm (l.set i x)
  | [], i, h => by simp at h
  | a :: l, 0, h => by exact List.Perm.refl _
  | a :: l, i + 1, h => by
    have := perm_put (x := x) (l := l) (i := i) (by simpa using h)
    exact (List.Perm.swap a x _).trans (this.cons a)
theorem Held.pick {S H : PH} {I L : List Itm} {x : Itm} {a : Nat} (h : Held S H (I ++ L)) (hx : L[a]? = some x) : Held S H (x :: (I ++ L.eraseIdx a)) :=
  h.perm (((List.Perm.append_left I (perm_pick hx).symm)).trans List.perm_middle)
theorem Held.unpick {S H : PH} {I L : List Itm} {x : Itm} {a : Nat} (h : Held S H (x :: (I ++ L.eraseIdx a))) (ha : a < L.length) : Held S H (I ++ L.set a x) :=
  h.perm (List.perm_middle.symm.trans (List.Perm.append_left I (perm_put ha)))
/-- a block of single cells is a row -/
theorem Held.blkRow {α : Type} [Enc α] {S H : PH} {I : List Itm} {e : TypeId} {xs : List Value} {r : Nat} {L : List α} (hz : sz α = 1) (h : Held S H (.blk r (.cells xs.toArray e (0, 0)) :: I)) (hrep : PV.RepRow S (L.flatMap pv) xs) (hm : L.length ≤ maxLen) :
    Held S H (orow e L (.slice (some ⟨r, 0, none⟩) L.length L.length) :: I) := by
  have hb : H r = some (.cells xs.toArray e (0, 0)) := h.at_ _ (List.mem_cons_self ..)
  have hl : xs.length = L.length := by have := hrep.length; rw [pvs_length, hz, Nat.mul_one] at this; exact this
  have hR : Row S H e L (.slice (some ⟨r, 0, none⟩) L.length L.length) := by
    refine ⟨fun g hg => ?_, xs, ⟨by rw [hz, Nat.mul_one]; exact hl, .inr ⟨r, L.length, xs.toArray, rfl, hb, Nat.le_refl _, hm, by rw [hz, Nat.mul_one]; simpa using hl, ?_⟩⟩, hrep⟩
    · simp only [ob, Option.some.injEq] at hg
      subst hg
      exact h.off _ (List.mem_cons_self ..) r rfl
    · rw [List.toList_toArray, hz, Nat.mul_one]
      exact List.take_of_length_le (by omega)
  exact Held.step (J := [.blk r (.cells xs.toArray e (0, 0))]) (J' := [orow e L (.slice (some ⟨r, 0, none⟩) L.length L.length)]) h (PH.le_refl _) (fun k o hk _ => hk) (fun k a b => absurd a b) (Row.held h.sh hR) fun j hj k hk => by
    rw [List.mem_singleton.1 hj] at hk
    simp only [Itm.ob, ob, Option.some.injEq] at hk
    subst hk
    exact .inr ⟨_, List.mem_singleton.2 rfl, rfl⟩

/-! ### a table in memory -/
instance encBools : Enc (List Bool) := ⟨fun l => [slp l], 1, fun _ => rfl⟩
theorem csLB {H : PH} {a : List Bool} {cs : List Value} (h : CsR H a cs) : ∃ v, cs = [v] ∧ SlR H a v := by
  have h' : PV.RepRow H [slp a] cs := h
  simp only [PV.RepRow] at h'
  obtain ⟨v, vs, rfl, h1, rfl⟩ := h'
  exact ⟨v, rfl, h1⟩
theorem uBoolssK : Try.prog.underlying 55 = some (.slice 57) := by kernel_rfl
theorem oneBoolsK : OneOk Try.prog 57 24 (.slice none 0 0) := OneOk.of (by kernel_rfl) rfl
abbrev tabB (tb : Nat) (ws : List Value) : List Itm := [.blk tb (.cells ws.toArray 57 (0, 0))]
abbrev tabR (T : List (List Bool)) (ws : List Value) : List Itm := (T.zip ws).map fun x => orow 4 x.1 x.2
structure TabIs (R : Nat) (T : List (List Bool)) (M : Nat → Nat → Prop) : Prop where
  len : T.length = R
  row : ∀ (a : Nat) l, T[a]? = some l → l.length = R
  at_ : ∀ (a b : Nat) l, T[a]? = some l → b < R → (l[b]? = some true ↔ M a b)
theorem TabIs.congr {R : Nat} {T : List (List Bool)} {M M' : Nat → Nat → Prop} (h : TabIs R T M) (hm : ∀ a b, a < R → b < R → (M a b ↔ M' a b)) : TabIs R T M' :=
  ⟨h.len, h.row, fun a b l hl hb => (h.at_ a b l hl hb).trans (hm a b (by have := (List.getElem?_eq_some_iff.1 hl).1; rw [h.len] at this; exact this) hb)⟩
theorem TabIs.put {R : Nat} {T : List (List Bool)} {M : Nat → Nat → Prop} (h : TabIs R T M) {a b : Nat} {l : List Bool} (hl : T[a]? = some l) (hb : b < R) : TabIs R (T.set a (l.set b true)) fun x y => M x y ∨ (x = a ∧ y = b) := by
  have hlr := h.row a l hl
  have haT := (List.getElem?_eq_some_iff.1 hl).1
  refine ⟨by simpa using h.len, fun x m hm => ?_, fun x y m hm hy => ?_⟩
  · rw [List.getElem?_set] at hm
    by_cases e : a = x
    · rw [if_pos e, if_pos (by omega)] at hm; cases hm; simpa using hlr
    · rw [if_neg e] at hm; exact h.row x m hm
  · rw [List.getElem?_set] at hm
    by_cases e : a = x
    · subst e
      rw [if_pos rfl, if_pos haT] at hm; cases hm
      rw [List.getElem?_set]
      by_cases e2 : b = y
      · subst e2
        rw [if_pos rfl, if_pos (by omega)]
        exact ⟨fun _ => .inr ⟨rfl, rfl⟩, fun _ => rfl⟩
      · rw [if_neg e2, h.at_ a y l hl hy]
        exact ⟨.inl, fun hh => hh.elim id fun hh => absurd hh.2.symm e2⟩
    · rw [if_neg e] at hm
      rw [h.at_ x y m hm hy]
      exact ⟨.inl, fun hh => hh.elim id fun hh => absurd hh.1.symm e⟩
theorem TabIs.none (R : Nat) : TabIs R (List.replicate R (List.replicate R false)) fun _ _ => False := by
  refine ⟨by simp, fun a l h => ?_, fun a b l h hb => ?_⟩
  · rw [List.getElem?_replicate] at h; split at h
    · cases h; simp
    · cases h
  · rw [List.getElem?_replicate] at h; split at h
    · cases h
      rw [List.getElem?_replicate, if_pos hb]; simp
    · cases h
theorem tabR_get {T : List (List Bool)} {ws : List Value} {a : Nat} {l : List Bool} {w : Value} (hl : T[a]? = some l) (hw : ws[a]? = some w) : (tabR T ws)[a]? = some (orow 4 l w) := by
  have : (T.zip ws)[a]? = some (l, w) := List.getElem?_zip_eq_some.2 ⟨hl, hw⟩
  rw [List.getElem?_map, this]; rfl
theorem tabR_set : ∀ {T : List (List Bool)} {ws : List Value} {a : Nat} {l' : List Bool} {w : Value}, ws[a]? = some w → (tabR T ws).set a (orow 4 l' w) = tabR (T.set a l') ws
  | [], ws, a, l', w, h => by simp [tabR]
  | x :: T, [], a, l', w, h => by simp at h
  | x :: T, y :: ws, 0, l', w, h => by simp at h; subst h; rfl
  | x :: T, y :: ws, a + 1, l', w, h => by
    have := tabR_set (T := T) (ws := ws) (a := a) (l' := l') (w := w) (by simpa using h)
    simp only [tabR, List.zip_cons_cons, List.map_cons, List.set_cons_succ] at this ⊢
    rw [this]
theorem tabR_rep (l : List Bool) : ∀ ws : List Value, tabR (List.replicate ws.length l) ws = ws.map fun w => orow 4 l w
  | [] => rfl
  | w :: ws => by
    have := tabR_rep l ws
    simp only [tabR, List.length_cons, List.replicate_succ, List.zip_cons_cons, List.map_cons] at this ⊢
    rw [this]
section
variable {X : List PanicEntry → PH → Prop} {β : Type} {E : List Value} {L : LK} {K : β → List Value → PH → LK → Prop} {S H : PH} {J : List Itm}
/-- one of a table becomes true -/
theorem den_tabPut {p : SV} {ss : List SV} {f : Fm β} {tb a b : Nat} {ws : List Value} {T : List (List Bool)} {l : List Bool} {w : Value} (h : Held S H (tabB tb ws ++ tabR T ws)) (hl : T[a]? = some l) (hw : ws[a]? = some w) (hb : b < l.length)
    (hp : pOf (ev0 E p) = pOf (eltV w (b : Int) 1)) (hv : ss.map (ev0 E) = [.bool true]) (hk : ∀ H', Held S H' (tabB tb ws ++ tabR (T.set a (l.set b true)) ws) → den Try.prog X f E H' L K) : den Try.prog X (.store p ss f) E H L K := by
  obtain ⟨c, hc⟩ : ∃ c, l[b]? = some c := ⟨_, List.getElem?_eq_getElem hb⟩
  refine den_hPutZ (i := b) (a := c) (a' := true) (us := [.bool true]) hp (h.pick (tabR_get hl hw)) hc rfl hv (by simp [oneC]) csBK_mk fun H' h' => hk H' ?_
  have hlen : a < (tabR T ws).length := (List.getElem?_eq_some_iff.1 (tabR_get hl hw)).1
  have := h'.unpick hlen
  rw [tabR_set hw] at this
  exact this
end
/-- all rows of a table are let stand -/
theorem freezeRows : ∀ (T : List (List Bool)) (ws : List Value) {S H : PH} {I : List Itm}, T.length = ws.length → Held S H (tabR T ws ++ I) → ∃ S', PH.le S S' ∧ Held S' H I ∧ PV.RepRow S' (T.flatMap pv) ws
  | [], [], S, H, I, _, h => ⟨S, PH.le_refl _, h, by simp [PV.RepRow]⟩
  | [], _ :: _, S, H, I, hl, h => by simp at hl
  | _ :: _, [], S, H, I, hl, h => by simp at hl
  | l :: T, w :: ws, S, H, I, hl, h => by
    have h' : Held S H (orow 4 l w :: (tabR T ws ++ I)) := h
    obtain ⟨S1, s1, l1, h1⟩ := h'.freeze
    obtain ⟨S2, l2, h2, r2⟩ := freezeRows T ws (by simpa using hl) h1
    refine ⟨S2, PH.le_trans l1 l2, h2, ?_⟩
    show PV.RepRow S2 (slp l :: T.flatMap pv) (w :: ws)
    simp only [PV.RepRow]
    exact ⟨w, ws, rfl, s1.le l2, r2⟩
theorem freezeTab {S H : PH} {tb : Nat} {ws : List Value} {T : List (List Bool)} (hl : T.length = ws.length) (hm : T.length ≤ maxLen) (h : Held S H (tabB tb ws ++ tabR T ws)) : ∃ S', PH.le S S' ∧ PH.le S' H ∧ SlR S' T (.slice (some ⟨tb, 0, none⟩) T.length T.length) := by
  obtain ⟨S1, l1, h1, r1⟩ := freezeRows T ws (I := tabB tb ws) hl (h.perm List.perm_append_comm)
  have h2 := Held.blkRow (α := List Bool) (L := T) rfl h1 r1 hm
  obtain ⟨S3, s3, l3, h3⟩ := h2.freeze
  exact ⟨S3, PH.le_trans l1 l3, h3.sh, s3⟩

/-! ### who meets -/
def FillX.sym (f : FillX) (a b : Int) : Prop := (a = f.to ∧ b ∈ f.live) ∨ (b = f.to ∧ a ∈ f.live)
def MeetP (p : PrcX) (a b : Int) : Prop := (a ∈ liveL p 0 0 ∧ b ∈ liveL p 0 0) ∨ ∃ f ∈ fillsL p, f.sym a b
theorem may_regl {p : PrcX} (h : mayP p = true) {r : Int} (hr : r ∈ p.regl) : 0 ≤ r ∧ r < p.regs := by
  obtain ⟨b, hb, hx⟩ := List.mem_flatMap.1 hr
  unfold mayP at h
  simp only [Bool.and_eq_true, List.all_eq_true] at h
  have hbm := h.2 b hb
  unfold BlkX.may at hbm
  simp only [Bool.and_eq_true, List.all_eq_true] at hbm
  have key : inR p r = true → 0 ≤ r ∧ r < p.regs := fun h => by unfold inR at h; exact of_decide_eq_true h
  unfold BlkX.regs at hx
  rcases List.mem_append.1 hx with hx | hx
  · obtain ⟨y, hy, hxy⟩ := List.mem_flatMap.1 hx
    have := hbm.1 y hy
    unfold InsX.may at this
    simp only [Bool.and_eq_true, List.all_eq_true] at this
    exact key (this.1 r hxy)
  · refine key (hbm.2 r ?_)
    unfold EndX.regs at hx
    unfold EndX.uses
    rcases List.mem_append.1 hx with hx | hx
    · split at hx
      · rename_i hrd
        simp at hx; subst hx
        unfold EndX.reads at hrd
        by_cases h1 : b.e.kind = 1 ∨ b.e.kind = 2 ∨ b.e.kind = 5
        · rw [if_pos h1]; simp
        · rw [if_neg h1]
          by_cases h3 : b.e.kind = 3
          · rw [if_pos h3]; simp
          · rw [if_neg h3]
            by_cases h4 : b.e.kind = 4
            · rw [if_pos h4]; simp
            · rw [if_neg h4]
              by_cases h6 : b.e.kind = 6
              · rw [if_pos h6]; simp
              · rw [if_neg (by omega), if_neg (by omega)] at hrd; cases hrd
      · cases hx
    · split at hx
      · rename_i hk
        rw [if_neg (by omega)]
        by_cases h3 : b.e.kind = 3
        · rw [if_pos h3]; exact List.mem_cons_of_mem _ hx
        · rw [if_neg h3, if_pos (by omega)]; exact List.mem_cons_of_mem _ (List.mem_cons_of_mem _ hx)
      · cases hx
theorem may_live {p : PrcX} (h : mayP p = true) {r : Int} {i a : Nat} (hr : r ∈ liveL p i a) : 0 ≤ r ∧ r < p.regs := may_regl h (live_regl (liveL_mem.1 hr))
theorem may_fill {p : PrcX} (h : mayP p = true) {f : FillX} (hf : f ∈ fillsL p) : (0 ≤ f.to ∧ f.to < p.regs) ∧ ∀ r ∈ f.live, 0 ≤ r ∧ r < p.regs := by
  obtain ⟨i, hi, hf⟩ := List.mem_flatMap.1 hf
  cases hb : p.blocks[i]? with
  | none => rw [hb] at hf; simp at hf
  | some b =>
    rw [hb] at hf
    simp only at hf
    unfold mayP at h
    have h0 := h
    simp only [Bool.and_eq_true, List.all_eq_true] at h
    have hbm := h.2 b (List.mem_of_getElem? hb)
    unfold BlkX.may at hbm
    simp only [Bool.and_eq_true, List.all_eq_true] at hbm
    have key : ∀ {r}, inR p r = true → 0 ≤ r ∧ r < p.regs := fun h => by unfold inR at h; exact of_decide_eq_true h
    unfold blkFill at hf
    rcases List.mem_append.1 hf with hf | hf
    · obtain ⟨j, hj, hf⟩ := List.mem_flatMap.1 hf
      cases hx : b.ins[j]? with
      | none => rw [hx] at hf; simp at hf
      | some x =>
        rw [hx] at hf
        simp only [insFill] at hf
        split at hf
        · cases hf
        · rename_i hop
          have hxm := hbm.1 x (List.mem_of_getElem? hx)
          unfold InsX.may at hxm
          rw [decide_eq_false hop] at hxm
          simp only [Bool.and_eq_true, List.all_eq_true, Bool.false_or] at hxm
          rw [List.mem_singleton.1 hf]
          refine ⟨key hxm.2, fun r hr => ?_⟩
          split at hr
          · exact may_live h0 (List.mem_filter.1 hr).1
          · exact may_live h0 hr
    · split at hf
      · rename_i hc
        rw [List.mem_singleton.1 hf]
        refine ⟨?_, fun r hr => ?_⟩
        · refine key (hbm.2 _ ?_)
          unfold EndX.calls at hc
          simp only [decide_eq_true_eq] at hc
          unfold EndX.uses
          rw [if_neg (by omega), if_neg (by omega)]
          by_cases h4 : b.e.kind = 4
          · rw [if_pos h4]; simp
          · rw [if_neg h4, if_pos (by omega)]; simp
        · unfold acrossL at hr
          split at hr
          · split at hr
            · exact may_live h0 (List.mem_filter.1 hr).1
            · cases hr
          · cases hr
      · cases hf
theorem may_head {p : PrcX} (h : mayP p = true) : 0 ≤ p.regs ∧ p.regs ≤ 2000 ∧ 0 ≤ p.params ∧ p.params ≤ p.regs ∧ p.blocks ≠ [] := by
  unfold mayP headMay at h
  simp only [Bool.and_eq_true, Bool.not_eq_true', Bool.or_eq_false_iff, decide_eq_false_iff_not] at h
  refine ⟨by omega, by omega, by omega, by omega, fun e => ?_⟩
  rw [e] at h; simp at h
end Go.Proofs.Ytlbbmcpppfiplaa.Vc
/-
  COLOUR: the document's table: the walk.
-/
namespace Go.Proofs.Ytlbbmcpppfiplaa.Vc
open Go

theorem tab_row {S H : PH} {tb a : Nat} {ws : List Value} {T : List (List Bool)} {l : List Bool} {w : Value} (h : Held S H (tabB tb ws ++ tabR T ws)) (hl : T[a]? = some l) (hw : ws[a]? = some w) :
    rowAt H (pOf (eltV (.slice (some ⟨tb, 0, none⟩) ws.length ws.length) (a : Int) 1)) [w] ∧ (∃ b c, w = .slice b l.length c) ∧ ∀ (b : Nat) c, l[b]? = some c → (slBase w).isSome = true ∧ rowAt H (pOf (eltV w (b : Int) 1)) [.bool c] := by
  have hm : orow 4 l w ∈ tabB tb ws ++ tabR T ws := List.mem_append_right _ (List.mem_of_getElem? (tabR_get hl hw))
  have hb : H tb = some (.cells ws.toArray 57 (0, 0)) := h.blk (List.mem_append_left _ (List.mem_cons_self ..))
  refine ⟨inB_row hb hw, (h.row hm).sl, fun b c hc => ?_⟩
  obtain ⟨h1, _, cs, h2, h3⟩ := (h.row hm).get hc
  rw [csBK h2] at h3
  exact ⟨h1, h3⟩
theorem rep_put (ws : List Value) (n : Nat) (v : Value) (h : 0 < n) : (ws ++ List.replicate n (Value.slice none 0 0)).take ws.length ++ [v] ++ (ws ++ List.replicate n (Value.slice none 0 0)).drop (ws.length + 1) = (ws ++ [v]) ++ List.replicate (n - 1) (Value.slice none 0 0) := by
  rw [List.take_left', List.drop_append, List.drop_of_length_le (by omega), List.nil_append, Nat.add_sub_cancel_left, List.drop_replicate]
  rfl
set_option maxHeartbeats 4000000 in
theorem Table18_tri (p : PrcX) (bv : Value) (S : PH) (hbv : SlR S p.blocks bv) (hw : p.wt ≤ 1048576) (hmay : mayP p = true) :
    Tri Try.prog n_scrimshawref18_Table #[.agg (prcVs p bv).toArray] S fun x S' => PH.le S S' ∧ ∃ (T : List (List Bool)) (v : Value), x = .returned v ∧ SlR S' T v ∧ TabIs p.regs.toNat T fun a b => MeetP p (a : Int) (b : Int) := by
  obtain ⟨hp, hE⟩ := PrcX.fit_wt hw
  have hN := hp.n
  obtain ⟨hr0, hr1, _, _, hne⟩ := may_head hmay
  have hb0 : 0 < p.blocks.length := List.length_pos_iff.2 hne
  obtain ⟨R, hR⟩ : ∃ R, R = p.regs.toNat := ⟨_, rfl⟩
  have hRi : (R : Int) = p.regs := by omega
  rw [← hR]
  obtain ⟨b0, c0, rfl⟩ := hbv.sl
  refine tri_scrimshawref18_Table (prcVs p (.slice b0 p.blocks.length c0)) (by kernel_rfl) (by kernel_rfl) ?_
  simp only [prcVs]
  refine den_hMakeRaw (n := R) uBoolssK oneBoolsK (by rw [hRi]; kernel_rfl) (by rw [hRi]; kernel_rfl) (by simp only [maxLen]; omega) (by omega) (Held.nil (PH.le_refl S)) fun tb K1 h1 _ => ?_
  have h1 := h1.rawBlk
  simp only [List.cons_append, List.nil_append]
  refine ⟨fun n vs K => ∃ (k : Nat) (ws : List Value), vs = [nI k] ∧ k + n = R ∧ ws.length = k ∧ Held S K ([.blk tb (.cells (ws ++ List.replicate n (Value.slice none 0 0)).toArray 57 (0, 0))] ++ ws.map fun w => orow 4 (List.replicate R false) w),
    ⟨R, 0, [], rfl, by omega, rfl, by simpa using h1⟩, ?_⟩
  rintro n vs K2 _ ⟨k, ws, rfl, hkn, hwl, h2⟩
  simp only [List.cons_append, List.nil_append]
  refine ⟨fun g => ?_, fun g => ?_⟩
  · simp only [ev0, ev, evV, List.cons_append, List.nil_append, List.getD_cons_zero, List.getD_cons_succ, List.map_cons, List.map_nil, iOf, bOf, sOf, pOf, slLen, slBase, cmpI, arI, Value.ite_bool, int_beq, int_bne, ite_band, ite_bor, decide_eq_true_eq] at g
    refine den_hMake (α := Bool) (n := R) false rfl (fun S => csBK_mk) uBoolsK oneBoolK (by rw [hRi]; kernel_rfl) (by rw [hRi]; kernel_rfl) (by simp only [maxLen]; omega) (by omega) h2 fun v3 K3 h3 _ => ?_
    obtain ⟨b3, c3, hv3⟩ := (h3.row (List.mem_cons_self ..)).sl
    rw [List.length_replicate] at hv3
    subst hv3
    refine ⟨fun _ => ?_, ?_⟩
    · simp only [Chk.holds, ev0, ev, evV, List.cons_append, List.nil_append, List.getD_cons_zero, List.getD_cons_succ, List.map_cons, List.map_nil, iOf, bOf, sOf, pOf, slLen, slBase, cmpI, arI, Value.ite_bool, int_beq, int_bne, ite_band, ite_bor]; exact ⟨rfl, by omega, by omega⟩
    refine den_bxStore (off := k) (vs := [.slice b3 R c3]) ?_ (h3.perm (List.Perm.swap _ _ _)) ?_ (by simp [oneC]) (by simp; omega) fun K4 h4 => ?_
    · simp only [ev0, ev, evV, List.cons_append, List.nil_append, List.getD_cons_zero, List.getD_cons_succ, List.map_cons, List.map_nil, iOf, bOf, sOf, pOf, slLen, slBase, cmpI, arI, Value.ite_bool, int_beq, int_bne, ite_band, ite_bor]
      simp [eltV, pOf, slBase, Addr.add_plain]
    · simp only [ev0, ev, evV, List.cons_append, List.nil_append, List.getD_cons_zero, List.getD_cons_succ, List.map_cons, List.map_nil, iOf, bOf, sOf, pOf, slLen, slBase, cmpI, arI, Value.ite_bool, int_beq, int_bne, ite_band, ite_bor]
    rw [show ([Value.slice b3 R c3]).length = 1 from rfl, ← hwl, rep_put ws n _ (by omega)] at h4
    refine ⟨_, lookup_hit, n - 1, by omega, k + 1, ws ++ [.slice b3 R c3], ?_, by omega, by simp [hwl], h4.perm ?_⟩
    · simp only [ev0, ev, evV, List.cons_append, List.nil_append, List.getD_cons_zero, List.getD_cons_succ, List.map_cons, List.map_nil, iOf, bOf, sOf, pOf, slLen, slBase, cmpI, arI, Value.ite_bool, int_beq, int_bne, ite_band, ite_bor]; rw [w64 (by omega) (by omega)]; rfl
    · rw [List.map_append]
      exact List.Perm.cons _ (List.perm_append_comm (l₁ := [orow 4 (List.replicate R false) (.slice b3 R c3)]))
  simp only [ev0, ev, evV, List.cons_append, List.nil_append, List.getD_cons_zero, List.getD_cons_succ, List.map_cons, List.map_nil, iOf, bOf, sOf, pOf, slLen, slBase, cmpI, arI, Value.ite_bool, int_beq, int_bne, ite_band, ite_bor, decide_eq_false_iff_not] at g
  have hkR : k = R := by omega
  have hn0 : n = 0 := by omega
  subst hkR
  rw [hn0, List.replicate_zero, List.append_nil] at h2
  have h2 : Held S K2 (tabB tb ws ++ tabR (List.replicate k (List.replicate k false)) ws) := by
    have := tabR_rep (List.replicate k false) ws
    rw [hwl] at this
    rw [this]; exact h2
  refine den_call cb_scrimshawref17_Read (h2.pure (R := fun x S' => ∃ v, x = .returned v ∧ SlR S' (readL p) v) (Read17_tri p (.slice b0 p.blocks.length c0) S hbv hp.regs)) ?_
  rintro x K3 ⟨S3, l3, h3, rv, rfl, hrv⟩
  obtain ⟨b1, c1, rfl⟩ := hrv.sl
  refine ⟨_, [.slice b1 (readL p).length c1], rfl, rfl, rfl, pendNil, ?_⟩
  refine den_call cb_scrimshawref17_Some (h3.pure (R := fun x S' => ∃ v, x = .returned v ∧ SlR S' (liveL p 0 0) v) (Some17_tri p (readL p) (.slice b0 p.blocks.length c0) (.slice b1 (readL p).length c1) S3 (hbv.le l3) hrv 0 0 hb0 (by omega) hp (Nat.le_trans (readL_len hp) (by omega)))) ?_
  rintro x K4 ⟨S4, l4, h4, iv, rfl, hiv⟩
  obtain ⟨b4, c4, rfl⟩ := hiv.sl
  refine ⟨_, [.slice b4 (liveL p 0 0).length c4], rfl, rfl, rfl, pendNil, ?_⟩
  have l04 := PH.le_trans l3 l4
  have hlen0 := liveL_len hp 0 0
  simp only [List.cons_append, List.nil_append]
  have hrange : ∀ r ∈ liveL p 0 0, ∃ a : Nat, r = (a : Int) ∧ a < k := fun r hr => by
    have := may_live hmay hr
    exact ⟨r.toNat, by omega, by omega⟩
  -- those at the beginning
  refine ⟨fun n vs K => ∃ (i : Nat) (T : List (List Bool)), vs = [nI i] ∧ i + n = (liveL p 0 0).length ∧ Held S4 K (tabB tb ws ++ tabR T ws) ∧ TabIs k T fun a b => (a : Int) ∈ (liveL p 0 0).take i ∧ (b : Int) ∈ liveL p 0 0,
    ⟨(liveL p 0 0).length, 0, _, rfl, by omega, h4, (TabIs.none k).congr fun a b _ _ => by simp⟩, ?_⟩
  rintro n5 vs K5 _ ⟨i, T5, rfl, hin, h5, ht5⟩
  simp only [List.cons_append, List.nil_append]
  refine ⟨fun g5 => ?_, fun g5 => ?_⟩
  · simp only [ev0, ev, evV, List.cons_append, List.nil_append, List.getD_cons_zero, List.getD_cons_succ, List.map_cons, List.map_nil, iOf, bOf, sOf, pOf, slLen, slBase, cmpI, arI, Value.ite_bool, int_beq, int_bne, ite_band, ite_bor, decide_eq_true_eq] at g5
    obtain ⟨x, hx⟩ : ∃ x, (liveL p 0 0)[i]? = some x := ⟨_, List.getElem?_eq_getElem (show i < (liveL p 0 0).length by omega)⟩
    obtain ⟨a, rfl, hak⟩ := hrange x (List.mem_of_getElem? hx)
    refine ⟨fun n vs K => ∃ (j : Nat) (T : List (List Bool)), vs = [nI j] ∧ j + n = (liveL p 0 0).length ∧ Held S4 K (tabB tb ws ++ tabR T ws) ∧ TabIs k T fun c d => ((c : Int) ∈ (liveL p 0 0).take i ∧ (d : Int) ∈ liveL p 0 0) ∨ (c = a ∧ (d : Int) ∈ (liveL p 0 0).take j),
      ⟨(liveL p 0 0).length, 0, T5, rfl, by omega, h5, ht5.congr fun a b _ _ => by simp⟩, ?_⟩
    rintro n6 vs K6 _ ⟨j, T6, rfl, hjn, h6, ht6⟩
    simp only [List.cons_append, List.nil_append]
    refine ⟨fun g6 => ?_, fun g6 => ?_⟩
    · simp only [ev0, ev, evV, List.cons_append, List.nil_append, List.getD_cons_zero, List.getD_cons_succ, List.map_cons, List.map_nil, iOf, bOf, sOf, pOf, slLen, slBase, cmpI, arI, Value.ite_bool, int_beq, int_bne, ite_band, ite_bor, decide_eq_true_eq] at g6
      obtain ⟨y, hy⟩ : ∃ y, (liveL p 0 0)[j]? = some y := ⟨_, List.getElem?_eq_getElem (show j < (liveL p 0 0).length by omega)⟩
      obtain ⟨b, rfl, hbk⟩ := hrange y (List.mem_of_getElem? hy)
      obtain ⟨l, hl⟩ : ∃ l, T6[a]? = some l := ⟨_, List.getElem?_eq_getElem (by rw [ht6.len]; exact hak)⟩
      obtain ⟨w, hww⟩ : ∃ w, ws[a]? = some w := ⟨_, List.getElem?_eq_getElem (by omega)⟩
      have hll := ht6.row a l hl
      obtain ⟨c, hc⟩ : ∃ c, l[b]? = some c := ⟨_, List.getElem?_eq_getElem (by omega)⟩
      obtain ⟨t1, ⟨wb, wc, rfl⟩, t2⟩ := tab_row h6 hl hww
      rw [hll] at t2
      rw [hwl, hll] at t1
      rw [hll] at hww
      obtain ⟨t3, t4⟩ := t2 b c hc
      obtain ⟨x1, _, xcs, x2, x3⟩ := (hiv.le h6.sh).get hx
      obtain ⟨rfl, _⟩ := csIK x2
      obtain ⟨y1, _, ycs, y2, y3⟩ := (hiv.le h6.sh).get hy
      obtain ⟨rfl, _⟩ := csIK y2
      refine ⟨fun _ => ?_, [.int .i64 (a : Int)], rfl, ?_, fun _ => ?_, [.slice wb k wc], rfl, ?_, fun _ => ?_, [.int .i64 (b : Int)], rfl, ?_, fun _ => ?_, ?_⟩
      · simp only [Chk.holds, ev0, ev, evV, List.cons_append, List.nil_append, List.getD_cons_zero, List.getD_cons_succ, List.map_cons, List.map_nil, iOf, bOf, sOf, pOf, slLen, slBase, cmpI, arI, Value.ite_bool, int_beq, int_bne, ite_band, ite_bor]; exact ⟨x1, by omega, by omega⟩
      · simp only [ev0, ev, evV, List.cons_append, List.nil_append, List.getD_cons_zero, List.getD_cons_succ, List.map_cons, List.map_nil, iOf, bOf, sOf, pOf, slLen, slBase, cmpI, arI, Value.ite_bool, int_beq, int_bne, ite_band, ite_bor]; exact x3
      · simp only [Chk.holds, ev0, ev, evV, List.cons_append, List.nil_append, List.getD_cons_zero, List.getD_cons_succ, List.map_cons, List.map_nil, iOf, bOf, sOf, pOf, slLen, slBase, cmpI, arI, Value.ite_bool, int_beq, int_bne, ite_band, ite_bor]; exact ⟨rfl, by omega, by omega⟩
      · simp only [ev0, ev, evV, List.cons_append, List.nil_append, List.getD_cons_zero, List.getD_cons_succ, List.map_cons, List.map_nil, iOf, bOf, sOf, pOf, slLen, slBase, cmpI, arI, Value.ite_bool, int_beq, int_bne, ite_band, ite_bor]; exact t1
      · simp only [Chk.holds, ev0, ev, evV, List.cons_append, List.nil_append, List.getD_cons_zero, List.getD_cons_succ, List.map_cons, List.map_nil, iOf, bOf, sOf, pOf, slLen, slBase, cmpI, arI, Value.ite_bool, int_beq, int_bne, ite_band, ite_bor]; exact ⟨y1, by omega, by omega⟩
      · simp only [ev0, ev, evV, List.cons_append, List.nil_append, List.getD_cons_zero, List.getD_cons_succ, List.map_cons, List.map_nil, iOf, bOf, sOf, pOf, slLen, slBase, cmpI, arI, Value.ite_bool, int_beq, int_bne, ite_band, ite_bor]; exact y3
      · simp only [Chk.holds, ev0, ev, evV, List.cons_append, List.nil_append, List.getD_cons_zero, List.getD_cons_succ, List.map_cons, List.map_nil, iOf, bOf, sOf, pOf, slLen, slBase, cmpI, arI, Value.ite_bool, int_beq, int_bne, ite_band, ite_bor]; exact ⟨t3, by omega, by omega⟩
      refine den_tabPut h6 hl hww (b := b) (by omega) ?_ ?_ fun K7 h7 => ?_
      · simp only [ev0, ev, evV, List.cons_append, List.nil_append, List.getD_cons_zero, List.getD_cons_succ, List.map_cons, List.map_nil, iOf, bOf, sOf, pOf, slLen, slBase, cmpI, arI, Value.ite_bool, int_beq, int_bne, ite_band, ite_bor]
      · simp only [ev0, ev, evV, List.cons_append, List.nil_append, List.getD_cons_zero, List.getD_cons_succ, List.map_cons, List.map_nil, iOf, bOf, sOf, pOf, slLen, slBase, cmpI, arI, Value.ite_bool, int_beq, int_bne, ite_band, ite_bor]
      refine ⟨_, lookup_hit, n6 - 1, by omega, j + 1, _, ?_, by omega, h7, (ht6.put hl hbk).congr fun c d _ _ => ?_⟩
      · simp only [ev0, ev, evV, List.cons_append, List.nil_append, List.getD_cons_zero, List.getD_cons_succ, List.map_cons, List.map_nil, iOf, bOf, sOf, pOf, slLen, slBase, cmpI, arI, Value.ite_bool, int_beq, int_bne, ite_band, ite_bor]; rw [w64 (by omega) (by omega)]; rfl
      · rw [List.take_add_one, hy]
        simp only [Option.toList_some, List.mem_append, List.mem_singleton, Int.ofNat_inj]
        constructor
        · rintro ((h | h) | ⟨h1, h2⟩)
          · exact .inl h
          · exact .inr ⟨h.1, .inl h.2⟩
          · exact .inr ⟨h1, .inr h2⟩
        · rintro (h | ⟨h1, h2 | h2⟩)
          · exact .inl (.inl h)
          · exact .inl (.inr ⟨h1, h2⟩)
          · exact .inr ⟨h1, h2⟩
    · simp only [ev0, ev, evV, List.cons_append, List.nil_append, List.getD_cons_zero, List.getD_cons_succ, List.map_cons, List.map_nil, iOf, bOf, sOf, pOf, slLen, slBase, cmpI, arI, Value.ite_bool, int_beq, int_bne, ite_band, ite_bor, decide_eq_false_iff_not] at g6
      rw [List.take_of_length_le (l := liveL p 0 0) (i := j) (by omega)] at ht6
      refine ⟨_, lookup_skip rfl lookup_hit, n5 - 1, by omega, i + 1, T6, ?_, by omega, h6, ht6.congr fun c d _ _ => ?_⟩
      · simp only [ev0, ev, evV, List.cons_append, List.nil_append, List.getD_cons_zero, List.getD_cons_succ, List.map_cons, List.map_nil, iOf, bOf, sOf, pOf, slLen, slBase, cmpI, arI, Value.ite_bool, int_beq, int_bne, ite_band, ite_bor]; rw [w64 (by omega) (by omega)]; rfl
      · rw [List.take_add_one, hx]
        simp only [Option.toList_some, List.mem_append, List.mem_singleton, Int.ofNat_inj]
        constructor
        · rintro (h | ⟨h1, h2⟩)
          · exact ⟨.inl h.1, h.2⟩
          · exact ⟨.inr h1, h2⟩
        · rintro ⟨h1 | h1, h2⟩
          · exact .inl ⟨h1, h2⟩
          · exact .inr ⟨h1, h2⟩
  simp only [ev0, ev, evV, List.cons_append, List.nil_append, List.getD_cons_zero, List.getD_cons_succ, List.map_cons, List.map_nil, iOf, bOf, sOf, pOf, slLen, slBase, cmpI, arI, Value.ite_bool, int_beq, int_bne, ite_band, ite_bor, decide_eq_false_iff_not] at g5
  rw [List.take_of_length_le (by omega)] at ht5
  -- those that something fills
  refine den_call cb_scrimshawref18_fills (h5.pure (R := fun x S' => ∃ v, x = .returned v ∧ SlR S' (fillsL p) v) (Fills_tri p (.slice b0 p.blocks.length c0) S4 (hbv.le l04) hw)) ?_
  rintro x K6 ⟨S6, l6, h6, fv, rfl, hfv⟩
  obtain ⟨b6, c6, rfl⟩ := hfv.sl
  refine ⟨_, [.slice b6 (fillsL p).length c6], rfl, rfl, rfl, pendNil, ?_⟩
  have hfm := hfv.max
  simp only [maxLen] at hfm
  simp only [List.cons_append, List.nil_append]
  refine ⟨fun n vs K => ∃ (i : Nat) (T : List (List Bool)), vs = [nI i] ∧ i + n = (fillsL p).length ∧ Held S6 K (tabB tb ws ++ tabR T ws) ∧ TabIs k T fun a b => ((a : Int) ∈ liveL p 0 0 ∧ (b : Int) ∈ liveL p 0 0) ∨ ∃ f ∈ (fillsL p).take i, f.sym a b,
    ⟨(fillsL p).length, 0, T5, rfl, by omega, h6, ht5.congr fun a b _ _ => by simp⟩, ?_⟩
  rintro n7 vs K7 _ ⟨i, T7, rfl, hin7, h7, ht7⟩
  simp only [List.cons_append, List.nil_append]
  refine ⟨fun g7 => ?_, fun g7 => ?_⟩
  rotate_left
  · simp only [ev0, ev, evV, List.cons_append, List.nil_append, List.getD_cons_zero, List.getD_cons_succ, List.map_cons, List.map_nil, iOf, bOf, sOf, pOf, slLen, slBase, cmpI, arI, Value.ite_bool, int_beq, int_bne, ite_band, ite_bor, decide_eq_false_iff_not] at g7
    rw [List.take_of_length_le (by omega)] at ht7
    obtain ⟨S8, l8, l9, s8⟩ := freezeTab (by rw [ht7.len, hwl]) (by rw [ht7.len]; simp only [maxLen]; omega) h7
    rw [ht7.len] at s8
    exact ⟨PH.le_trans l04 (PH.le_trans l6 (PH.le_trans l8 l9)), T7, _, rfl, s8.le l9, ht7⟩
  simp only [ev0, ev, evV, List.cons_append, List.nil_append, List.getD_cons_zero, List.getD_cons_succ, List.map_cons, List.map_nil, iOf, bOf, sOf, pOf, slLen, slBase, cmpI, arI, Value.ite_bool, int_beq, int_bne, ite_band, ite_bor, decide_eq_true_eq] at g7
  obtain ⟨f, hf⟩ : ∃ f, (fillsL p)[i]? = some f := ⟨_, List.getElem?_eq_getElem (show i < (fillsL p).length by omega)⟩
  obtain ⟨hto, hlv⟩ := may_fill hmay (List.mem_of_getElem? hf)
  obtain ⟨a, haf⟩ : ∃ a : Nat, f.to = (a : Int) := ⟨f.to.toNat, by omega⟩
  have hak : a < k := by omega
  obtain ⟨f1, _, fcs, f2, f3⟩ := hfv.get hf
  obtain ⟨lv, rfl, _, _, hflv⟩ := fill_iff.1 f2
  obtain ⟨b8, c8, rfl⟩ := hflv.sl
  rw [haf] at f3
  have hfl := hflv.max
  simp only [maxLen] at hfl
  refine ⟨fun n vs K => ∃ (j : Nat) (T : List (List Bool)), vs = [nI j] ∧ j + n = f.live.length ∧ Held S6 K (tabB tb ws ++ tabR T ws) ∧ TabIs k T fun c d => (((c : Int) ∈ liveL p 0 0 ∧ (d : Int) ∈ liveL p 0 0) ∨ ∃ f ∈ (fillsL p).take i, f.sym c d) ∨ (c = a ∧ (d : Int) ∈ f.live.take j) ∨ (d = a ∧ (c : Int) ∈ f.live.take j),
    ⟨f.live.length, 0, T7, rfl, by omega, h7, ht7.congr fun a b _ _ => by simp⟩, ?_⟩
  rintro n8 vs K8 _ ⟨j, T8, rfl, hjn, h8, ht8⟩
  simp only [List.cons_append, List.nil_append]
  have g2 : rowAt K8 (pOf (eltV (.slice b6 (fillsL p).length c6) (i : Int) 3)) [.int .i64 (a : Int), .int .i64 f.of, .slice b8 f.live.length c8] := rowAt_le h8.sh f3
  refine ⟨fun _ => ?_, [.slice b8 f.live.length c8], rfl, ?_, fun g8 => ?_, fun g8 => ?_⟩
  · simp only [Chk.holds, ev0, ev, evV, List.cons_append, List.nil_append, List.getD_cons_zero, List.getD_cons_succ, List.map_cons, List.map_nil, iOf, bOf, sOf, pOf, slLen, slBase, cmpI, arI, Value.ite_bool, int_beq, int_bne, ite_band, ite_bor]; exact ⟨f1, by omega, by omega⟩
  · simp only [ev0, ev, evV, List.cons_append, List.nil_append, List.getD_cons_zero, List.getD_cons_succ, List.map_cons, List.map_nil, iOf, bOf, sOf, pOf, slLen, slBase, cmpI, arI, Value.ite_bool, int_beq, int_bne, ite_band, ite_bor]; exact rowAt_sub g2 2 1
  · simp only [ev0, ev, evV, List.cons_append, List.nil_append, List.getD_cons_zero, List.getD_cons_succ, List.map_cons, List.map_nil, iOf, bOf, sOf, pOf, slLen, slBase, cmpI, arI, Value.ite_bool, int_beq, int_bne, ite_band, ite_bor, decide_eq_true_eq] at g8
    obtain ⟨y, hy⟩ : ∃ y, f.live[j]? = some y := ⟨_, List.getElem?_eq_getElem (show j < f.live.length by omega)⟩
    have hyr := hlv y (List.mem_of_getElem? hy)
    obtain ⟨b, rfl⟩ : ∃ b : Nat, y = (b : Int) := ⟨y.toNat, by omega⟩
    have hbk : b < k := by omega
    obtain ⟨l, hl⟩ : ∃ l, T8[a]? = some l := ⟨_, List.getElem?_eq_getElem (by rw [ht8.len]; exact hak)⟩
    obtain ⟨w, hww⟩ : ∃ w, ws[a]? = some w := ⟨_, List.getElem?_eq_getElem (by omega)⟩
    have hll := ht8.row a l hl
    obtain ⟨c, hc⟩ : ∃ c, l[b]? = some c := ⟨_, List.getElem?_eq_getElem (by omega)⟩
    obtain ⟨t1, ⟨wb, wc, rfl⟩, t2⟩ := tab_row h8 hl hww
    rw [hll] at t2
    rw [hwl, hll] at t1
    rw [hll] at hww
    obtain ⟨t3, t4⟩ := t2 b c hc
    obtain ⟨y1, _, ycs, y2, y3⟩ := (hflv.le h8.sh).get hy
    obtain ⟨rfl, _⟩ := csIK y2
    refine ⟨[.int .i64 (a : Int)], rfl, ?_, fun _ => ?_, [.slice wb k wc], rfl, ?_, [.slice b8 f.live.length c8], rfl, ?_, fun _ => ?_, [.int .i64 (b : Int)], rfl, ?_, fun _ => ?_, ?_⟩
    · simp only [ev0, ev, evV, List.cons_append, List.nil_append, List.getD_cons_zero, List.getD_cons_succ, List.map_cons, List.map_nil, iOf, bOf, sOf, pOf, slLen, slBase, cmpI, arI, Value.ite_bool, int_beq, int_bne, ite_band, ite_bor]; exact rowAt_sub g2 0 1
    · simp only [Chk.holds, ev0, ev, evV, List.cons_append, List.nil_append, List.getD_cons_zero, List.getD_cons_succ, List.map_cons, List.map_nil, iOf, bOf, sOf, pOf, slLen, slBase, cmpI, arI, Value.ite_bool, int_beq, int_bne, ite_band, ite_bor]; exact ⟨rfl, by omega, by omega⟩
    · simp only [ev0, ev, evV, List.cons_append, List.nil_append, List.getD_cons_zero, List.getD_cons_succ, List.map_cons, List.map_nil, iOf, bOf, sOf, pOf, slLen, slBase, cmpI, arI, Value.ite_bool, int_beq, int_bne, ite_band, ite_bor]; exact t1
    · simp only [ev0, ev, evV, List.cons_append, List.nil_append, List.getD_cons_zero, List.getD_cons_succ, List.map_cons, List.map_nil, iOf, bOf, sOf, pOf, slLen, slBase, cmpI, arI, Value.ite_bool, int_beq, int_bne, ite_band, ite_bor]; exact rowAt_sub g2 2 1
    · simp only [Chk.holds, ev0, ev, evV, List.cons_append, List.nil_append, List.getD_cons_zero, List.getD_cons_succ, List.map_cons, List.map_nil, iOf, bOf, sOf, pOf, slLen, slBase, cmpI, arI, Value.ite_bool, int_beq, int_bne, ite_band, ite_bor]; exact ⟨y1, by omega, by omega⟩
    · simp only [ev0, ev, evV, List.cons_append, List.nil_append, List.getD_cons_zero, List.getD_cons_succ, List.map_cons, List.map_nil, iOf, bOf, sOf, pOf, slLen, slBase, cmpI, arI, Value.ite_bool, int_beq, int_bne, ite_band, ite_bor]; exact y3
    · simp only [Chk.holds, ev0, ev, evV, List.cons_append, List.nil_append, List.getD_cons_zero, List.getD_cons_succ, List.map_cons, List.map_nil, iOf, bOf, sOf, pOf, slLen, slBase, cmpI, arI, Value.ite_bool, int_beq, int_bne, ite_band, ite_bor]; exact ⟨t3, by omega, by omega⟩
    refine den_tabPut h8 hl hww (b := b) (by omega) ?_ ?_ fun K9 h9 => ?_
    · simp only [ev0, ev, evV, List.cons_append, List.nil_append, List.getD_cons_zero, List.getD_cons_succ, List.map_cons, List.map_nil, iOf, bOf, sOf, pOf, slLen, slBase, cmpI, arI, Value.ite_bool, int_beq, int_bne, ite_band, ite_bor]
    · simp only [ev0, ev, evV, List.cons_append, List.nil_append, List.getD_cons_zero, List.getD_cons_succ, List.map_cons, List.map_nil, iOf, bOf, sOf, pOf, slLen, slBase, cmpI, arI, Value.ite_bool, int_beq, int_bne, ite_band, ite_bor]
    have ht9 := ht8.put hl hbk
    simp only [List.cons_append, List.nil_append]
    obtain ⟨l2, hl2⟩ : ∃ l2, (T8.set a (l.set b true))[b]? = some l2 := ⟨_, List.getElem?_eq_getElem (by rw [ht9.len]; exact hbk)⟩
    obtain ⟨w2, hww2⟩ : ∃ w2, ws[b]? = some w2 := ⟨_, List.getElem?_eq_getElem (by omega)⟩
    have hll2 := ht9.row b l2 hl2
    obtain ⟨c2, hc2⟩ : ∃ c2, l2[a]? = some c2 := ⟨_, List.getElem?_eq_getElem (by omega)⟩
    obtain ⟨u1, ⟨wb2, wc2, rfl⟩, u2⟩ := tab_row h9 hl2 hww2
    rw [hll2] at u2
    rw [hwl, hll2] at u1
    rw [hll2] at hww2
    obtain ⟨u3, u4⟩ := u2 a c2 hc2
    have g9 : rowAt K9 (pOf (eltV (.slice b6 (fillsL p).length c6) (i : Int) 3)) [.int .i64 (a : Int), .int .i64 f.of, .slice b8 f.live.length c8] := rowAt_le h9.sh f3
    obtain ⟨z1, _, zcs, z2, z3⟩ := (hflv.le h9.sh).get hy
    obtain ⟨rfl, _⟩ := csIK z2
    refine ⟨[.slice b8 f.live.length c8], rfl, ?_, fun _ => ?_, [.int .i64 (b : Int)], rfl, ?_, fun _ => ?_, [.slice wb2 k wc2], rfl, ?_, [.int .i64 (a : Int)], rfl, ?_, fun _ => ?_, ?_⟩
    · simp only [ev0, ev, evV, List.cons_append, List.nil_append, List.getD_cons_zero, List.getD_cons_succ, List.map_cons, List.map_nil, iOf, bOf, sOf, pOf, slLen, slBase, cmpI, arI, Value.ite_bool, int_beq, int_bne, ite_band, ite_bor]; exact rowAt_sub g9 2 1
    · simp only [Chk.holds, ev0, ev, evV, List.cons_append, List.nil_append, List.getD_cons_zero, List.getD_cons_succ, List.map_cons, List.map_nil, iOf, bOf, sOf, pOf, slLen, slBase, cmpI, arI, Value.ite_bool, int_beq, int_bne, ite_band, ite_bor]; exact ⟨z1, by omega, by omega⟩
    · simp only [ev0, ev, evV, List.cons_append, List.nil_append, List.getD_cons_zero, List.getD_cons_succ, List.map_cons, List.map_nil, iOf, bOf, sOf, pOf, slLen, slBase, cmpI, arI, Value.ite_bool, int_beq, int_bne, ite_band, ite_bor]; exact z3
    · simp only [Chk.holds, ev0, ev, evV, List.cons_append, List.nil_append, List.getD_cons_zero, List.getD_cons_succ, List.map_cons, List.map_nil, iOf, bOf, sOf, pOf, slLen, slBase, cmpI, arI, Value.ite_bool, int_beq, int_bne, ite_band, ite_bor]; exact ⟨rfl, by omega, by omega⟩
    · simp only [ev0, ev, evV, List.cons_append, List.nil_append, List.getD_cons_zero, List.getD_cons_succ, List.map_cons, List.map_nil, iOf, bOf, sOf, pOf, slLen, slBase, cmpI, arI, Value.ite_bool, int_beq, int_bne, ite_band, ite_bor]; exact u1
    · simp only [ev0, ev, evV, List.cons_append, List.nil_append, List.getD_cons_zero, List.getD_cons_succ, List.map_cons, List.map_nil, iOf, bOf, sOf, pOf, slLen, slBase, cmpI, arI, Value.ite_bool, int_beq, int_bne, ite_band, ite_bor]; exact rowAt_sub g9 0 1
    · simp only [Chk.holds, ev0, ev, evV, List.cons_append, List.nil_append, List.getD_cons_zero, List.getD_cons_succ, List.map_cons, List.map_nil, iOf, bOf, sOf, pOf, slLen, slBase, cmpI, arI, Value.ite_bool, int_beq, int_bne, ite_band, ite_bor]; exact ⟨u3, by omega, by omega⟩
    refine den_tabPut h9 hl2 hww2 (b := a) (by omega) ?_ ?_ fun K10 h10 => ?_
    · simp only [ev0, ev, evV, List.cons_append, List.nil_append, List.getD_cons_zero, List.getD_cons_succ, List.map_cons, List.map_nil, iOf, bOf, sOf, pOf, slLen, slBase, cmpI, arI, Value.ite_bool, int_beq, int_bne, ite_band, ite_bor]
    · simp only [ev0, ev, evV, List.cons_append, List.nil_append, List.getD_cons_zero, List.getD_cons_succ, List.map_cons, List.map_nil, iOf, bOf, sOf, pOf, slLen, slBase, cmpI, arI, Value.ite_bool, int_beq, int_bne, ite_band, ite_bor]
    refine ⟨_, lookup_hit, n8 - 1, by omega, j + 1, _, ?_, by omega, h10, (ht9.put hl2 hak).congr fun c d _ _ => ?_⟩
    · simp only [ev0, ev, evV, List.cons_append, List.nil_append, List.getD_cons_zero, List.getD_cons_succ, List.map_cons, List.map_nil, iOf, bOf, sOf, pOf, slLen, slBase, cmpI, arI, Value.ite_bool, int_beq, int_bne, ite_band, ite_bor]; rw [w64 (by omega) (by omega)]; rfl
    · rw [List.take_add_one, hy]
      simp only [Option.toList_some, List.mem_append, List.mem_singleton, Int.ofNat_inj]
      constructor
      · rintro (((h | h | h) | h) | h)
        · exact .inl h
        · exact .inr (.inl ⟨h.1, .inl h.2⟩)
        · exact .inr (.inr ⟨h.1, .inl h.2⟩)
        · exact .inr (.inl ⟨h.1, .inr h.2⟩)
        · exact .inr (.inr ⟨h.2, .inr h.1⟩)
      · rintro (h | ⟨h1, h2 | h2⟩ | ⟨h1, h2 | h2⟩)
        · exact .inl (.inl (.inl h))
        · exact .inl (.inl (.inr (.inl ⟨h1, h2⟩)))
        · exact .inl (.inr ⟨h1, h2⟩)
        · exact .inl (.inl (.inr (.inr ⟨h1, h2⟩)))
        · exact .inr ⟨h2, h1⟩
  · simp only [ev0, ev, evV, List.cons_append, List.nil_append, List.getD_cons_zero, List.getD_cons_succ, List.map_cons, List.map_nil, iOf, bOf, sOf, pOf, slLen, slBase, cmpI, arI, Value.ite_bool, int_beq, int_bne, ite_band, ite_bor, decide_eq_false_iff_not] at g8
    rw [List.take_of_length_le (l := f.live) (by omega)] at ht8
    refine ⟨_, lookup_skip rfl lookup_hit, n7 - 1, by omega, i + 1, T8, ?_, by omega, h8, ht8.congr fun c d _ _ => ?_⟩
    · simp only [ev0, ev, evV, List.cons_append, List.nil_append, List.getD_cons_zero, List.getD_cons_succ, List.map_cons, List.map_nil, iOf, bOf, sOf, pOf, slLen, slBase, cmpI, arI, Value.ite_bool, int_beq, int_bne, ite_band, ite_bor]; rw [w64 (by omega) (by omega)]; rfl
    · rw [List.take_add_one, hf]
      simp only [Option.toList_some, List.mem_append, List.mem_singleton]
      have hsym : f.sym (c : Int) (d : Int) ↔ (c = a ∧ (d : Int) ∈ f.live) ∨ (d = a ∧ (c : Int) ∈ f.live) := by
        unfold FillX.sym; rw [haf, Int.ofNat_inj, Int.ofNat_inj]
      constructor
      · rintro ((h | ⟨f', h1, h2⟩) | h)
        · exact .inl h
        · exact .inr ⟨f', .inl h1, h2⟩
        · exact .inr ⟨f, .inr rfl, hsym.2 h⟩
      · rintro (h | ⟨f', h1 | h1, h2⟩)
        · exact .inl (.inl h)
        · exact .inl (.inr ⟨f', h1, h2⟩)
        · subst h1; exact .inr (hsym.1 h2)
end Go.Proofs.Ytlbbmcpppfiplaa.Vc
/-
  COLOUR: the document's edges; what is tight.
-/
namespace Go.Proofs.Ytlbbmcpppfiplaa.Vc
open Go

instance encPair : Enc (Int × Int) := ⟨fun x => [.int .i64 x.1, .int .i64 x.2], 2, fun _ => rfl⟩
theorem pair_iff {H : PH} {x : Int × Int} {cs : List Value} : CsR H x cs ↔ cs = [.int .i64 x.1, .int .i64 x.2] ∧ InI x.1 ∧ InI x.2 := by
  show PV.RepRow H [_, _] cs ↔ _
  simp only [PV.RepRow, repI_iff]
  constructor
  · rintro ⟨v1, _, rfl, ⟨rfl, h1⟩, v2, _, rfl, ⟨rfl, h2⟩, rfl⟩
    exact ⟨rfl, h1, h2⟩
  · rintro ⟨rfl, h1, h2⟩
    exact ⟨_, _, rfl, ⟨rfl, h1⟩, _, _, rfl, ⟨rfl, h2⟩, rfl⟩
theorem uPairsK : Try.prog.underlying 47 = some (.slice 51) := by kernel_rfl
theorem elemPairK : ElemOk Try.prog 51 2 16 = true := by kernel_rfl
def lexLt (x y : Int × Int) : Prop := x.1 < y.1 ∨ (x.1 = y.1 ∧ x.2 < y.2)
theorem lex_eq : ∀ {l m : List (Int × Int)}, l.Pairwise lexLt → m.Pairwise lexLt → (∀ x, x ∈ l ↔ x ∈ m) → l = m
  | [], [], _, _, _ => rfl
  | [], b :: m, _, _, h => absurd ((h b).2 (List.mem_cons_self ..)) (by simp)
  | a :: l, [], _, _, h => absurd ((h a).1 (List.mem_cons_self ..)) (by simp)
  | a :: l, b :: m, hl, hm, h => by
    obtain ⟨l1, l2⟩ := List.pairwise_cons.1 hl
    obtain ⟨m1, m2⟩ := List.pairwise_cons.1 hm
    have asym : ∀ x y : Int × Int, lexLt x y → lexLt y x → False := fun x y h1 h2 => by unfold lexLt at h1 h2; omega
    have irr : ∀ x : Int × Int, ¬ lexLt x x := fun x h => asym x x h h
    have hab : a = b := by
      rcases List.mem_cons.1 ((h a).1 (List.mem_cons_self ..)) with e | ha
      · exact e
      · rcases List.mem_cons.1 ((h b).2 (List.mem_cons_self ..)) with e | hb
        · exact e.symm
        · exact (asym _ _ (m1 a ha) (l1 b hb)).elim
    subst hab
    congr 1
    refine lex_eq l2 m2 fun x => ?_
    constructor
    · intro hx
      rcases List.mem_cons.1 ((h x).1 (List.mem_cons_of_mem _ hx)) with e | h1
      · subst e; exact (irr _ (l1 x hx)).elim
      · exact h1
    · intro hx
      rcases List.mem_cons.1 ((h x).2 (List.mem_cons_of_mem _ hx)) with e | h1
      · subst e; exact (irr _ (m1 x hx)).elim
      · exact h1
/-- the edges -/
structure EdgesOf (p : PrcX) (l : List (Int × Int)) : Prop where
  sorted : l.Pairwise lexLt
  mem : ∀ a b : Int, (a, b) ∈ l ↔ 0 ≤ a ∧ a < b ∧ b < p.regs ∧ MeetP p a b
/-! ### what is tight -/
/-- how many there are below R -/
def cntB (f : Nat → Bool) : Nat → Nat
  | 0 => 0
  | n + 1 => cntB f n + if f n then 1 else 0
theorem cntB_mono {f g : Nat → Bool} : ∀ n, (∀ i, i < n → f i = true → g i = true) → cntB f n ≤ cntB g n
  | 0, _ => Nat.le_refl _
  | n + 1, h => by
    have := cntB_mono n fun i hi => h i (by omega)
    have h2 := h n (by omega)
    simp only [cntB]
    cases hf : f n with
    | true => rw [h2 hf]; omega
    | false => simp only [Bool.false_eq_true, if_false]; omega
theorem cntB_le (f : Nat → Bool) : ∀ n, cntB f n ≤ n
  | 0 => Nat.le_refl _
  | n + 1 => by have := cntB_le f n; simp only [cntB]; split <;> omega
theorem cntB_congr {f g : Nat → Bool} : ∀ n, (∀ i, i < n → f i = g i) → cntB f n = cntB g n
  | 0, _ => rfl
  | n + 1, h => by simp only [cntB, cntB_congr n fun i hi => h i (by omega), h n (by omega)]
theorem cntB_drop {f g : Nat → Bool} {i : Nat} (hf : f i = true) (hg : g i = false) : ∀ n, i < n → (∀ j, j < n → j ≠ i → f j = g j) → cntB f n = cntB g n + 1
  | 0, h, _ => by omega
  | n + 1, h, hh => by
    simp only [cntB]
    by_cases e : i = n
    · subst e
      rw [cntB_congr i fun j hj => hh j (by omega) (by omega), hf, hg]; simp
    · rw [cntB_drop hf hg n (by omega) fun j hj hn => hh j (by omega) hn, hh n (by omega) (Ne.symm e)]; omega
theorem cntB_pos {f : Nat → Bool} {i : Nat} (hf : f i = true) : ∀ n, i < n → 0 < cntB f n
  | 0, h => by omega
  | n + 1, h => by
    simp only [cntB]
    by_cases e : i = n
    · subst e; rw [hf]; simp
    · have := cntB_pos hf n (by omega); omega
/-- a set in which each meets so many others of it -/
def TightU (R : Nat) (M : Nat → Nat → Prop) (k : Int) (U : Nat → Bool) : Prop := ∀ i, i < R → U i = true → ∃ f : Nat → Bool, (∀ j, j < R → f j = true → U j = true ∧ j ≠ i ∧ M i j) ∧ k ≤ (cntB f R : Int)
def gB (l : List Bool) (i : Nat) : Bool := l.getD i false
theorem gB_get {l : List Bool} {i : Nat} {c : Bool} (h : l[i]? = some c) : gB l i = c := by unfold gB; rw [List.getD_eq_getElem?_getD, h]; rfl
set_option maxHeartbeats 4000000 in
theorem Tight18_tri (p : PrcX) (k : Int) (bv : Value) (S : PH) (hbv : SlR S p.blocks bv) (hw : p.wt ≤ 1048576) (hmay : mayP p = true) :
    Tri Try.prog n_scrimshawref18_Tight #[.agg (prcVs p bv).toArray, .int .i64 k] S fun x S' => PH.le S S' ∧ ∃ t : Bool, x = .returned (.bool t) ∧ ∀ U, TightU p.regs.toNat (fun a b => MeetP p (a : Int) (b : Int)) k U → (∃ i, i < p.regs.toNat ∧ U i = true) → t = true := by
  obtain ⟨hr0, hr1, _, _, hne⟩ := may_head hmay
  obtain ⟨R, hR⟩ : ∃ R, R = p.regs.toNat := ⟨_, rfl⟩
  have hRi : (R : Int) = p.regs := by omega
  rw [← hR]
  obtain ⟨b0, c0, rfl⟩ := hbv.sl
  refine tri_scrimshawref18_Tight (prcVs p (.slice b0 p.blocks.length c0) ++ [.int .i64 k]) (by kernel_rfl) (by kernel_rfl) ?_
  simp only [prcVs, List.cons_append, List.nil_append]
  refine den_call cb_scrimshawref18_Table (Table18_tri p (.slice b0 p.blocks.length c0) S hbv hw hmay) ?_
  rintro x K1 ⟨l1, T, tv, rfl, htv, hT⟩
  rw [← hR] at hT
  obtain ⟨b2, c2, rfl⟩ := htv.sl
  have hTl := hT.len
  rw [hTl] at htv
  refine ⟨_, [.slice b2 T.length c2], rfl, rfl, rfl, pendNil, ?_⟩
  rw [hTl]
  refine den_hMake (α := Bool) (n := R) false rfl (fun S => csBK_mk) uBoolsK oneBoolK (by rw [hRi]; kernel_rfl) (by rw [hRi]; kernel_rfl) (by simp only [maxLen]; omega) (by omega) (Held.nil (PH.le_refl K1)) fun v3 K3 h3 _ => ?_
  obtain ⟨b3, c3, hv3⟩ := (h3.row (List.mem_cons_self ..)).sl
  rw [List.length_replicate] at hv3
  subst hv3
  simp only [List.cons_append, List.nil_append]
  refine ⟨fun n vs K => ∃ (i : Nat) (l : List Bool), vs = [nI i] ∧ i + n = R ∧ l.length = R ∧ Held K1 K [orow 4 l (.slice b3 R c3)] ∧ ∀ j, j < i → l[j]? = some true,
    ⟨R, 0, _, rfl, by omega, by simp, h3, fun j h => by omega⟩, ?_⟩
  rintro n vs K4 _ ⟨i, l, rfl, hin, hll, h4, hall⟩
  simp only [List.cons_append, List.nil_append]
  refine ⟨fun g => ?_, fun g => ?_⟩
  · simp only [ev0, ev, evV, List.cons_append, List.nil_append, List.getD_cons_zero, List.getD_cons_succ, List.map_cons, List.map_nil, iOf, bOf, sOf, pOf, slLen, slBase, cmpI, arI, Value.ite_bool, int_beq, int_bne, ite_band, ite_bor, decide_eq_true_eq] at g
    obtain ⟨c, hc⟩ : ∃ c, l[i]? = some c := ⟨_, List.getElem?_eq_getElem (by omega)⟩
    obtain ⟨t1, _⟩ := (h4.row (List.mem_cons_self ..)).get hc
    refine ⟨fun _ => ?_, ?_⟩
    · simp only [Chk.holds, ev0, ev, evV, List.cons_append, List.nil_append, List.getD_cons_zero, List.getD_cons_succ, List.map_cons, List.map_nil, iOf, bOf, sOf, pOf, slLen, slBase, cmpI, arI, Value.ite_bool, int_beq, int_bne, ite_band, ite_bor]; exact ⟨t1, by omega, by omega⟩
    refine den_hPutZ (i := i) (a := c) (a' := true) (us := [.bool true]) ?_ h4 hc rfl ?_ (by simp [oneC]) csBK_mk fun K5 h5 => ?_
    · simp only [ev0, ev, evV, List.cons_append, List.nil_append, List.getD_cons_zero, List.getD_cons_succ, List.map_cons, List.map_nil, iOf, bOf, sOf, pOf, slLen, slBase, cmpI, arI, Value.ite_bool, int_beq, int_bne, ite_band, ite_bor]; rfl
    · simp only [ev0, ev, evV, List.cons_append, List.nil_append, List.getD_cons_zero, List.getD_cons_succ, List.map_cons, List.map_nil, iOf, bOf, sOf, pOf, slLen, slBase, cmpI, arI, Value.ite_bool, int_beq, int_bne, ite_band, ite_bor]
    refine ⟨_, lookup_hit, n - 1, by omega, i + 1, l.set i true, ?_, by omega, by simpa using hll, h5, fun j hj => ?_⟩
    · simp only [ev0, ev, evV, List.cons_append, List.nil_append, List.getD_cons_zero, List.getD_cons_succ, List.map_cons, List.map_nil, iOf, bOf, sOf, pOf, slLen, slBase, cmpI, arI, Value.ite_bool, int_beq, int_bne, ite_band, ite_bor]; rw [w64 (by omega) (by omega)]; rfl
    · rw [List.getElem?_set]
      by_cases e : i = j
      · rw [if_pos e, if_pos (by omega)]
      · rw [if_neg e]; exact hall j (by omega)
  simp only [ev0, ev, evV, List.cons_append, List.nil_append, List.getD_cons_zero, List.getD_cons_succ, List.map_cons, List.map_nil, iOf, bOf, sOf, pOf, slLen, slBase, cmpI, arI, Value.ite_bool, int_beq, int_bne, ite_band, ite_bor, decide_eq_false_iff_not] at g
  have hiR : i = R := by omega
  subst hiR
  have hcnt0 : cntB (gB l) i = i := by
    have key : ∀ n, n ≤ i → cntB (gB l) n = n := by
      intro n
      induction n with
      | zero => intro _; rfl
      | succ n ih => intro hn; simp only [cntB, ih (by omega), gB_get (hall n (by omega)), if_true]
    exact key i (Nat.le_refl _)
  -- as long as one is taken out
  refine ⟨fun n vs K => ∃ (again : Bool) (l : List Bool), vs = [.int .i64 (cntB (gB l) i : Int), .bool again] ∧ n = cntB (gB l) i + (if again then 1 else 0) ∧ l.length = i ∧ Held K1 K [orow 4 l (.slice b3 i c3)] ∧ ∀ U, TightU i (fun a b => MeetP p (a : Int) (b : Int)) k U → ∀ j, j < i → U j = true → gB l j = true,
    ⟨_, true, l, ?_, rfl, hll, h4, fun U _ j hj _ => gB_get (hall j hj)⟩, ?_⟩
  · simp only [ev0, ev, evV, List.cons_append, List.nil_append, List.getD_cons_zero, List.getD_cons_succ, List.map_cons, List.map_nil, iOf, bOf, sOf, pOf, slLen, slBase, cmpI, arI, Value.ite_bool, int_beq, int_bne, ite_band, ite_bor]; rw [hcnt0, hRi]
  rintro n5 vs K5 _ ⟨again, l5, rfl, rfl, hl5, h5, hU5⟩
  simp only [List.cons_append, List.nil_append]
  refine ⟨fun g5 => ?_, fun g5 => ?_⟩
  rotate_left
  · refine ⟨PH.le_trans l1 h5.sh, _, rfl, fun U hU ⟨j, hj, hUj⟩ => ?_⟩
    have := cntB_pos (hU5 U hU j hj hUj) i hj
    simp only [ev0, ev, evV, List.cons_append, List.nil_append, List.getD_cons_zero, List.getD_cons_succ, List.map_cons, List.map_nil, iOf, bOf, sOf, pOf, slLen, slBase, cmpI, arI, Value.ite_bool, int_beq, int_bne, ite_band, ite_bor]
    exact decide_eq_true (by omega)
  simp only [ev0, ev, evV, List.cons_append, List.nil_append, List.getD_cons_zero, List.getD_cons_succ, List.map_cons, List.map_nil, iOf, bOf, sOf, pOf, slLen, slBase, cmpI, arI, Value.ite_bool, int_beq, int_bne, ite_band, ite_bor] at g5
  subst g5
  refine ⟨fun n vs K => ∃ (ag : Bool) (j : Nat) (l : List Bool), vs = [.int .i64 (cntB (gB l) i : Int), .bool ag, nI j] ∧ j + n = i ∧ l.length = i ∧ Held K1 K [orow 4 l (.slice b3 i c3)] ∧ (∀ U, TightU i (fun a b => MeetP p (a : Int) (b : Int)) k U → ∀ j, j < i → U j = true → gB l j = true) ∧ cntB (gB l) i + (if ag then 1 else 0) ≤ cntB (gB l5) i,
    ⟨i, false, 0, l5, rfl, by omega, hl5, h5, hU5, by simp⟩, ?_⟩
  rintro n6 vs K6 _ ⟨ag, j, l6, rfl, hjn, hl6, h6, hU6, hm6⟩
  simp only [List.cons_append, List.nil_append]
  refine ⟨fun g6 => ?_, fun g6 => ?_⟩
  rotate_left
  · refine ⟨_, lookup_skip rfl lookup_hit, _, ?_, ag, l6, rfl, rfl, hl6, h6, hU6⟩
    simp only [if_true]; omega
  simp only [ev0, ev, evV, List.cons_append, List.nil_append, List.getD_cons_zero, List.getD_cons_succ, List.map_cons, List.map_nil, iOf, bOf, sOf, pOf, slLen, slBase, cmpI, arI, Value.ite_bool, int_beq, int_bne, ite_band, ite_bor, decide_eq_true_eq] at g6
  have hji : j < i := by omega
  obtain ⟨row, hrow⟩ : ∃ row, T[j]? = some row := ⟨_, List.getElem?_eq_getElem (by omega)⟩
  have hrl := hT.row j row hrow
  have hcle := cntB_le (gB l6) i
  refine ⟨fun vs K => ∃ (ag : Bool) (l : List Bool), vs = [.int .i64 (cntB (gB l) i : Int), .bool ag] ∧ l.length = i ∧ Held K1 K [orow 4 l (.slice b3 i c3)] ∧ (∀ U, TightU i (fun a b => MeetP p (a : Int) (b : Int)) k U → ∀ j, j < i → U j = true → gB l j = true) ∧ cntB (gB l) i + (if ag then 1 else 0) ≤ cntB (gB l5) i, ?_, ?_⟩
  · rintro vs K _ ⟨ag', l', rfl, hl', h', hU', hm'⟩
    refine ⟨_, lookup_hit, n6 - 1, by omega, ag', j + 1, l', ?_, by omega, hl', h', hU', hm'⟩
    simp only [ev0, ev, evV, List.cons_append, List.nil_append, List.getD_cons_zero, List.getD_cons_succ, List.map_cons, List.map_nil, iOf, bOf, sOf, pOf, slLen, slBase, cmpI, arI, Value.ite_bool, int_beq, int_bne, ite_band, ite_bor]; rw [w64 (by omega) (by omega)]; rfl
  refine ⟨fun n vs K => ∃ q : Nat, vs = [.int .i64 (cntB (fun t => gB l6 t && (decide (t ≠ j) && gB row t)) q : Int), nI q] ∧ q + n = i ∧ K = K6, ⟨i, 0, rfl, by omega, rfl⟩, ?_⟩
  rintro n7 vs K7 _ ⟨q, rfl, hqn, rfl⟩
  simp only [List.cons_append, List.nil_append]
  have hcq := cntB_le (fun t => gB l6 t && (decide (t ≠ j) && gB row t)) q
  refine ⟨fun g7 => ?_, fun g7 => ?_⟩
  · simp only [ev0, ev, evV, List.cons_append, List.nil_append, List.getD_cons_zero, List.getD_cons_succ, List.map_cons, List.map_nil, iOf, bOf, sOf, pOf, slLen, slBase, cmpI, arI, Value.ite_bool, int_beq, int_bne, ite_band, ite_bor, decide_eq_true_eq] at g7
    have hqi : q < i := by omega
    obtain ⟨c, hc⟩ : ∃ c, l6[q]? = some c := ⟨_, List.getElem?_eq_getElem (by omega)⟩
    obtain ⟨d, hd⟩ : ∃ d, row[q]? = some d := ⟨_, List.getElem?_eq_getElem (by omega)⟩
    obtain ⟨t1, _, tcs, t2, t3⟩ := (h6.row (List.mem_cons_self ..)).get hc
    rw [csBK t2] at t3
    obtain ⟨u1, _, ucs, u2, u3⟩ := (htv.le h6.sh).get hrow
    obtain ⟨wv, rfl, hwv⟩ := csLB u2
    obtain ⟨wb, wc, rfl⟩ := hwv.sl
    obtain ⟨y1, _, ycs, y2, y3⟩ := hwv.get hd
    rw [csBK y2] at y3
    rw [hrl] at u3 y1 y3
    refine ⟨fun vs K => K = K7 ∧ vs = [.bool (c && (decide (q ≠ j) && d))], ?_, fun _ => ?_, [.bool c], rfl, ?_, fun _ => ?_, fun g8 => ?_, fun g8 => ?_⟩
    · rintro vs K _ ⟨rfl, rfl⟩
      refine ⟨_, lookup_hit, n7 - 1, by omega, q + 1, ?_, by omega, rfl⟩
      simp only [ev0, ev, evV, List.cons_append, List.nil_append, List.getD_cons_zero, List.getD_cons_succ, List.map_cons, List.map_nil, iOf, bOf, sOf, pOf, slLen, slBase, cmpI, arI, Value.ite_bool, int_beq, int_bne, ite_band, ite_bor, cntB, gB_get hc, gB_get hd]
      cases c && (decide (q ≠ j) && d) with
      | true => simp only [if_true]; rw [w64 (by omega) (by omega), w64 (by omega) (by omega)]; rfl
      | false => simp only [Bool.false_eq_true, if_false, Nat.add_zero]; rw [w64 (by omega) (by omega)]; rfl
    · simp only [Chk.holds, ev0, ev, evV, List.cons_append, List.nil_append, List.getD_cons_zero, List.getD_cons_succ, List.map_cons, List.map_nil, iOf, bOf, sOf, pOf, slLen, slBase, cmpI, arI, Value.ite_bool, int_beq, int_bne, ite_band, ite_bor]; exact ⟨t1, by omega, by omega⟩
    · simp only [ev0, ev, evV, List.cons_append, List.nil_append, List.getD_cons_zero, List.getD_cons_succ, List.map_cons, List.map_nil, iOf, bOf, sOf, pOf, slLen, slBase, cmpI, arI, Value.ite_bool, int_beq, int_bne, ite_band, ite_bor]; exact t3
    · simp only [Chk.holds, ev0, ev, evV, List.cons_append, List.nil_append, List.getD_cons_zero, List.getD_cons_succ, List.map_cons, List.map_nil, iOf, bOf, sOf, pOf, slLen, slBase, cmpI, arI, Value.ite_bool, int_beq, int_bne, ite_band, ite_bor]; exact ⟨u1, by omega, by omega⟩
    · simp only [ev0, ev, evV, List.cons_append, List.nil_append, List.getD_cons_zero, List.getD_cons_succ, List.map_cons, List.map_nil, iOf, bOf, sOf, pOf, slLen, slBase, cmpI, arI, Value.ite_bool, int_beq, int_bne, ite_band, ite_bor] at g8
      simp only [Bool.and_eq_true, decide_eq_true_eq] at g8
      refine ⟨[.slice wb i wc], rfl, ?_, fun _ => ?_, [.bool d], rfl, ?_, _, lookup_hit, rfl, ?_⟩
      · simp only [ev0, ev, evV, List.cons_append, List.nil_append, List.getD_cons_zero, List.getD_cons_succ, List.map_cons, List.map_nil, iOf, bOf, sOf, pOf, slLen, slBase, cmpI, arI, Value.ite_bool, int_beq, int_bne, ite_band, ite_bor]; exact u3
      · simp only [Chk.holds, ev0, ev, evV, List.cons_append, List.nil_append, List.getD_cons_zero, List.getD_cons_succ, List.map_cons, List.map_nil, iOf, bOf, sOf, pOf, slLen, slBase, cmpI, arI, Value.ite_bool, int_beq, int_bne, ite_band, ite_bor]; exact ⟨y1, by omega, by omega⟩
      · simp only [ev0, ev, evV, List.cons_append, List.nil_append, List.getD_cons_zero, List.getD_cons_succ, List.map_cons, List.map_nil, iOf, bOf, sOf, pOf, slLen, slBase, cmpI, arI, Value.ite_bool, int_beq, int_bne, ite_band, ite_bor]; exact y3
      · simp only [ev0, ev, evV, List.cons_append, List.nil_append, List.getD_cons_zero, List.getD_cons_succ, List.map_cons, List.map_nil, iOf, bOf, sOf, pOf, slLen, slBase, cmpI, arI, Value.ite_bool, int_beq, int_bne, ite_band, ite_bor]
        rw [g8.1, decide_eq_true (show q ≠ j by omega)]; simp
    · simp only [ev0, ev, evV, List.cons_append, List.nil_append, List.getD_cons_zero, List.getD_cons_succ, List.map_cons, List.map_nil, iOf, bOf, sOf, pOf, slLen, slBase, cmpI, arI, Value.ite_bool, int_beq, int_bne, ite_band, ite_bor] at g8
      refine ⟨_, lookup_hit, rfl, ?_⟩
      have : (c && (decide (q ≠ j) && d)) = false := by
        cases c with
        | false => rfl
        | true =>
          simp only [Bool.true_and, decide_eq_false_iff_not, ne_eq, Decidable.not_not] at g8
          rw [decide_eq_false (show ¬ q ≠ j by omega)]; rfl
      rw [this]; rfl
  simp only [ev0, ev, evV, List.cons_append, List.nil_append, List.getD_cons_zero, List.getD_cons_succ, List.map_cons, List.map_nil, iOf, bOf, sOf, pOf, slLen, slBase, cmpI, arI, Value.ite_bool, int_beq, int_bne, ite_band, ite_bor, decide_eq_false_iff_not] at g7
  have hqi : q = i := by omega
  subst hqi
  obtain ⟨c, hc⟩ : ∃ c, l6[j]? = some c := ⟨_, List.getElem?_eq_getElem (by omega)⟩
  obtain ⟨t1, _, tcs, t2, t3⟩ := (h6.row (List.mem_cons_self ..)).get hc
  rw [csBK t2] at t3
  refine ⟨fun _ => ?_, [.bool c], rfl, ?_, fun g8 => ?_, fun g8 => ?_⟩
  · simp only [Chk.holds, ev0, ev, evV, List.cons_append, List.nil_append, List.getD_cons_zero, List.getD_cons_succ, List.map_cons, List.map_nil, iOf, bOf, sOf, pOf, slLen, slBase, cmpI, arI, Value.ite_bool, int_beq, int_bne, ite_band, ite_bor]; exact ⟨t1, by omega, by omega⟩
  · simp only [ev0, ev, evV, List.cons_append, List.nil_append, List.getD_cons_zero, List.getD_cons_succ, List.map_cons, List.map_nil, iOf, bOf, sOf, pOf, slLen, slBase, cmpI, arI, Value.ite_bool, int_beq, int_bne, ite_band, ite_bor]; exact t3
  · simp only [ev0, ev, evV, List.cons_append, List.nil_append, List.getD_cons_zero, List.getD_cons_succ, List.map_cons, List.map_nil, iOf, bOf, sOf, pOf, slLen, slBase, cmpI, arI, Value.ite_bool, int_beq, int_bne, ite_band, ite_bor] at g8
    simp only [Bool.and_eq_true, decide_eq_true_eq] at g8
    obtain ⟨rfl, hlt⟩ := g8
    refine den_hPutZ (i := j) (a := true) (a' := false) (us := [.bool false]) ?_ h6 hc rfl ?_ (by simp [oneC]) csBK_mk fun K8 h8 => ?_
    · simp only [ev0, ev, evV, List.cons_append, List.nil_append, List.getD_cons_zero, List.getD_cons_succ, List.map_cons, List.map_nil, iOf, bOf, sOf, pOf, slLen, slBase, cmpI, arI, Value.ite_bool, int_beq, int_bne, ite_band, ite_bor]; rfl
    · simp only [ev0, ev, evV, List.cons_append, List.nil_append, List.getD_cons_zero, List.getD_cons_succ, List.map_cons, List.map_nil, iOf, bOf, sOf, pOf, slLen, slBase, cmpI, arI, Value.ite_bool, int_beq, int_bne, ite_band, ite_bor]
    have hset : ∀ t, t < q → t ≠ j → gB l6 t = gB (l6.set j false) t := fun t _ hn => by
      unfold gB; rw [List.getD_eq_getElem?_getD, List.getD_eq_getElem?_getD, List.getElem?_set, if_neg (Ne.symm hn)]
    have hsj : gB (l6.set j false) j = false := by
      unfold gB; rw [List.getD_eq_getElem?_getD, List.getElem?_set, if_pos rfl]; split <;> rfl
    have hdrop := cntB_drop (gB_get hc) hsj q hji hset
    have hpos := cntB_pos (gB_get hc) q hji
    refine ⟨_, lookup_skip rfl lookup_hit, true, l6.set j false, ?_, by simpa using hl6, h8, fun U hU t ht hUt => ?_, ?_⟩
    · simp only [ev0, ev, evV, List.cons_append, List.nil_append, List.getD_cons_zero, List.getD_cons_succ, List.map_cons, List.map_nil, iOf, bOf, sOf, pOf, slLen, slBase, cmpI, arI, Value.ite_bool, int_beq, int_bne, ite_band, ite_bor]
      rw [w64 (by omega) (by omega)]
      congr 2
      omega
    · by_cases e : t = j
      · subst e
        obtain ⟨f, hf1, hf2⟩ := hU t ht hUt
        have : cntB f q ≤ cntB (fun s => gB l6 s && (decide (s ≠ t) && gB row s)) q := cntB_mono q fun s hs hfs => by
          obtain ⟨z1, z2, z3⟩ := hf1 s hs hfs
          have hrs : row[s]? = some true := (hT.at_ t s row hrow hs).2 z3
          rw [hU6 U hU s hs z1, decide_eq_true z2, gB_get hrs]; rfl
        omega
      · rw [← hset t ht e]; exact hU6 U hU t ht hUt
    · simp only [if_true]
      have : cntB (gB l6) q ≤ cntB (gB l5) q := by split at hm6 <;> omega
      omega
  · exact ⟨_, lookup_skip rfl lookup_hit, ag, l6, rfl, hl6, h6, hU6, hm6⟩
end Go.Proofs.Ytlbbmcpppfiplaa.Vc
/-
  COLOUR: the program's graph: a map of maps.
-/
namespace Go.Proofs.Ytlbbmcpppfiplaa.Vc
open Go

section
variable {P : Program} {Φ : Next → PH → Prop} {Ψ : Value → PH → Prop} {H : PH} {ρ : Operand → Value}
theorem exec_index {T ty : TypeId} {x y : Operand} : wpS P (execOp ρ (bare (.index T x y) ty)) Φ Ψ H = wpS P (Instr.index T (ρ x) (ρ y)) (fun v H' => Φ (.value v) H') Ψ H := by
  simp only [execOp, bare, wpS_bind', wpS_pure]
/-- one of an array of arrays -/
theorem den_indexA {X : List PanicEntry → PH → Prop} {β : Type} {E : List Value} {L : LK} {K : β → List Value → PH → LK → Prop} {T ty e e2 : TypeId} {n m z : Nat} {x y : Operand} {args : List (Nat × VE)} {tags : List Tag} {k : Fm β} {cs : Array Value} {kk : IntKind} {j : Nat} (vs : List Value)
    (hT : P.underlying T = some (.array n e)) (he : P.underlying e = some (.array m e2)) (hiz : (P.info? e).map (·.size) = some z) (hx : argEv E args x = .agg cs) (hy : argEv E args y = .int kk (j : Int)) (hj : j < n) (hvs : (cs.extract (j * z) (j * z + z)).toList = vs) (ht : tagsOk tags vs = true)
    (hk : den P X k (E ++ vs) H L K) : den P X (.sem (.index T x y) ty args (.ag tags) [] k) E H L K := by
  obtain ⟨i, hi, hz⟩ := Option.map_eq_some_iff.1 hiz
  show wpS P (execOp (argEv E args) (bare _ ty)) _ _ H
  rw [exec_index, hx, hy]
  unfold Instr.index asIntOf
  simp only [wpS_bind', wpS_pure, wpS_underlying hT]
  have hjn : (0 : Int) ≤ (j : Int) ∧ (j : Int) < (n : Int) := ⟨by omega, by omega⟩
  rw [if_pos hjn]
  simp only [wpS_bind', wpS_sizeOf hi, Int.toNat_natCast, hz]
  unfold part isAgg
  simp only [wpS_bind', wpS_underlying he, wpS_pure, if_true, wpS_sizeOf hi, hz]
  refine ⟨vs, ht, ?_, pendNil, hk⟩
  show Value.agg _ = Value.agg _
  rw [← hvs]
end

structure GN where
  ref : Nat
  es : Array MapEntry
  cl : Nat
  s : List Int
abbrev outM (N : List (Int × GN)) : List (Int × Value) := N.map fun x => (x.1, .map (some x.2.ref))
abbrev grB (gr : Nat) (es : Array MapEntry) (cl : Nat) : List Itm := [.blk gr (.map es cl)]
abbrev grI (N : List (Int × GN)) : List Itm := N.map fun x => .blk x.2.ref (.map x.2.es x.2.cl)
structure GrOk (es : Array MapEntry) (cl : Nat) (N : List (Int × GN)) : Prop where
  outer : EntsR (α := Int) es.toList cl (outM N)
  inner : ∀ (j : Nat) x, N[j]? = some x → SetAt x.2.es x.2.cl x.2.s
def relN (N : List (Int × GN)) (c d : Int) : Prop := ∃ x ∈ N, x.1 = c ∧ d ∈ x.2.s
theorem outM_keys {es : Array MapEntry} {cl : Nat} {N : List (Int × GN)} (h : GrOk es cl N) : (N.map (·.1)).Nodup := by
  have := h.outer.keys
  rwa [List.map_map] at this
theorem getM_out : ∀ {N : List (Int × GN)} {j : Nat} {x : Int × GN}, (N.map (·.1)).Nodup → N[j]? = some x → getM (outM N) x.1 = some (.map (some x.2.ref))
  | [], j, x, _, h => by simp at h
  | y :: N, 0, x, hn, h => by
    simp at h; subst h
    rw [outM, List.map_cons, getM_cons, if_pos rfl]
  | y :: N, j + 1, x, hn, h => by
    have h' : N[j]? = some x := by simpa using h
    simp only [List.map_cons, List.nodup_cons] at hn
    have hne : ¬ y.1 = x.1 := fun e => hn.1 (e ▸ List.mem_map.2 ⟨x, List.mem_of_getElem? h', rfl⟩)
    rw [outM, List.map_cons, getM_cons, if_neg hne]
    exact getM_out hn.2 h'
theorem getM_outNone {N : List (Int × GN)} {k : Int} (h : ∀ x ∈ N, x.1 ≠ k) : getM (outM N) k = none := by
  rw [getM_none, List.map_map]
  intro hk
  obtain ⟨x, hx, e⟩ := List.mem_map.1 hk
  exact h x hx e
theorem uGraphK : Try.prog.underlying 80 = some (.map 3 64) := by kernel_rfl
theorem uInnerK : Try.prog.underlying 64 = some (.map 3 3) := by kernel_rfl
theorem outM_set {N : List (Int × GN)} {j : Nat} {x : Int × GN} {es : Array MapEntry} {cl : Nat} {s : List Int} (hx : N[j]? = some x) : outM (N.set j (x.1, ⟨x.2.ref, es, cl, s⟩)) = outM N := by
  refine List.ext_getElem? fun t => ?_
  rw [List.getElem?_map, List.getElem?_map, List.getElem?_set]
  by_cases e : j = t
  · subst e
    have hj := (List.getElem?_eq_some_iff.1 hx).1
    rw [if_pos rfl, if_pos hj, hx]; rfl
  · rw [if_neg e]
theorem grI_set {N : List (Int × GN)} {j : Nat} {x : Int × GN} {es : Array MapEntry} {cl : Nat} {s : List Int} (hx : N[j]? = some x) : (grI N).set j (.blk x.2.ref (.map es cl)) = grI (N.set j (x.1, ⟨x.2.ref, es, cl, s⟩)) := by
  refine List.ext_getElem? fun t => ?_
  rw [List.getElem?_set, List.getElem?_map, List.getElem?_map, List.getElem?_set, List.length_map]
  by_cases e : j = t
  · subst e
    have hj := (List.getElem?_eq_some_iff.1 hx).1
    rw [if_pos rfl, if_pos hj, if_pos rfl, if_pos hj]; rfl
  · rw [if_neg e, if_neg e]
theorem relN_set {N : List (Int × GN)} {j : Nat} {x : Int × GN} {es : Array MapEntry} {cl : Nat} {s : List Int} {k : Int} (hn : (N.map (·.1)).Nodup) (hx : N[j]? = some x) (hs : ∀ y, y ∈ s ↔ y ∈ x.2.s ∨ y = k) (c d : Int) : relN (N.set j (x.1, ⟨x.2.ref, es, cl, s⟩)) c d ↔ relN N c d ∨ (c = x.1 ∧ d = k) := by
  have hj := (List.getElem?_eq_some_iff.1 hx).1
  unfold relN
  constructor
  · rintro ⟨y, hy, h1, h2⟩
    rcases List.mem_or_eq_of_mem_set hy with h | h
    · exact .inl ⟨y, h, h1, h2⟩
    · subst h
      rcases (hs d).1 h2 with h3 | h3
      · exact .inl ⟨x, List.mem_of_getElem? hx, h1, h3⟩
      · exact .inr ⟨h1.symm, h3⟩
  · rintro (⟨y, hy, h1, h2⟩ | ⟨h1, h2⟩)
    · obtain ⟨t, ht⟩ := List.getElem?_of_mem hy
      by_cases e : j = t
      · subst e
        rw [hx] at ht; cases ht
        exact ⟨(x.1, ⟨x.2.ref, es, cl, s⟩), List.mem_of_getElem? (i := j) (by rw [List.getElem?_set, if_pos rfl, if_pos hj]), h1, (hs d).2 (.inl h2)⟩
      · exact ⟨y, List.mem_of_getElem? (i := t) (by rw [List.getElem?_set, if_neg e]; exact ht), h1, h2⟩
    · exact ⟨(x.1, ⟨x.2.ref, es, cl, s⟩), List.mem_of_getElem? (i := j) (by rw [List.getElem?_set, if_pos rfl, if_pos hj]), h1.symm, (hs d).2 (.inr h2)⟩
set_option maxHeartbeats 2000000 in
theorem join_tri (gr : Nat) (es : Array MapEntry) (cl : Nat) (N : List (Int × GN)) (a b : Int) (S K : PH) (h : Held S K (grB gr es cl ++ grI N)) (hg : GrOk es cl N) :
    Tri Try.prog n_color_graph_int___join #[.map (some gr), .int .i64 a, .int .i64 b] K fun x K' => ∃ es' cl' N', x = .returned (.tuple #[]) ∧ Held S K' (grB gr es' cl' ++ grI N') ∧ GrOk es' cl' N' ∧ ∀ c d, relN N' c d ↔ relN N c d ∨ (a ≠ b ∧ ((c = a ∧ d = b) ∨ (c = b ∧ d = a))) := by
  refine tri_color_graph_int___join [.map (some gr), .int .i64 a, .int .i64 b] (by kernel_rfl) (by kernel_rfl) ?_
  refine ⟨fun g => ?_, fun g => ?_⟩
  · simp only [ev0, ev, evV, List.cons_append, List.nil_append, List.getD_cons_zero, List.getD_cons_succ, List.map_cons, List.map_nil, iOf, bOf, sOf, pOf, slLen, slBase, cmpI, arI, Value.ite_bool, int_beq, int_bne, ite_band, ite_bor, decide_eq_true_eq] at g
    have hab : a = b := by simpa using g
    exact ⟨es, cl, N, rfl, h, hg, fun c d => ⟨.inl, fun hh => hh.elim id fun hh => absurd hab hh.1⟩⟩
  simp only [ev0, ev, evV, List.cons_append, List.nil_append, List.getD_cons_zero, List.getD_cons_succ, List.map_cons, List.map_nil, iOf, bOf, sOf, pOf, slLen, slBase, cmpI, arI, Value.ite_bool, int_beq, int_bne, ite_band, ite_bor] at g
  have hab : a ≠ b := by simpa using g
  refine ⟨fun n vs K' => ∃ (i : Nat) (es' : Array MapEntry) (cl' : Nat) (N' : List (Int × GN)), vs = [nI i] ∧ i + n = 2 ∧ Held S K' (grB gr es' cl' ++ grI N') ∧ GrOk es' cl' N' ∧ ∀ c d, relN N' c d ↔ relN N c d ∨ (1 ≤ i ∧ c = a ∧ d = b) ∨ (2 ≤ i ∧ c = b ∧ d = a),
    ⟨2, 0, es, cl, N, rfl, rfl, h, hg, fun c d => by simp⟩, ?_⟩
  rintro n vs K1 _ ⟨i, es1, cl1, N1, rfl, hin, h1, hg1, hr1⟩
  simp only [List.cons_append, List.nil_append]
  refine ⟨fun g1 => ?_, fun g1 => ?_⟩
  rotate_left
  · simp only [ev0, ev, evV, List.cons_append, List.nil_append, List.getD_cons_zero, List.getD_cons_succ, List.map_cons, List.map_nil, iOf, bOf, sOf, pOf, slLen, slBase, cmpI, arI, Value.ite_bool, int_beq, int_bne, ite_band, ite_bor, decide_eq_false_iff_not] at g1
    have : i = 2 := by omega
    subst this
    refine ⟨es1, cl1, N1, rfl, h1, hg1, fun c d => ?_⟩
    rw [hr1]
    constructor
    · rintro (h | ⟨_, h⟩ | ⟨_, h⟩)
      · exact .inl h
      · exact .inr ⟨hab, .inl h⟩
      · exact .inr ⟨hab, .inr h⟩
    · rintro (h | ⟨_, h | h⟩)
      · exact .inl h
      · exact .inr (.inl ⟨by omega, h⟩)
      · exact .inr (.inr ⟨by omega, h⟩)
  simp only [ev0, ev, evV, List.cons_append, List.nil_append, List.getD_cons_zero, List.getD_cons_succ, List.map_cons, List.map_nil, iOf, bOf, sOf, pOf, slLen, slBase, cmpI, arI, Value.ite_bool, int_beq, int_bne, ite_band, ite_bor, decide_eq_true_eq] at g1
  have hi2 : i < 2 := by omega
  obtain ⟨k, w, hkw, hstep⟩ : ∃ k w : Int, (k = (if i = 0 then a else b) ∧ w = (if i = 0 then b else a)) ∧ ∀ c d : Int, ((1 ≤ i ∧ c = a ∧ d = b) ∨ (2 ≤ i ∧ c = b ∧ d = a) ∨ (c = k ∧ d = w)) ↔ ((1 ≤ i + 1 ∧ c = a ∧ d = b) ∨ (2 ≤ i + 1 ∧ c = b ∧ d = a)) := by
    refine ⟨_, _, ⟨rfl, rfl⟩, fun c d => ?_⟩
    by_cases e : i = 0
    · rw [if_pos e, if_pos e]; subst e; simp
    · have : i = 1 := by omega
      subst this; simp
  refine den_indexA (kk := .i64) (e := 51) (e2 := 3) (n := 2) (m := 2) (z := 2) (cs := #[.int .i64 a, .int .i64 b, .int .i64 b, .int .i64 a]) (j := i) [.int .i64 k, .int .i64 w] (by kernel_rfl) (by kernel_rfl) (by kernel_rfl) (by kernel_rfl) (by kernel_rfl) hi2 ?_ rfl ?_
  · obtain ⟨rfl, rfl⟩ := hkw
    by_cases e : i = 0
    · rw [if_pos e, if_pos e]; subst e; rfl
    · have : i = 1 := by omega
      subst this; rfl
  simp only [List.cons_append, List.nil_append]
  refine ⟨fun vs K' => vs = [] ∧ ∃ (es' : Array MapEntry) (cl' : Nat) (N' : List (Int × GN)), Held S K' (grB gr es' cl' ++ grI N') ∧ GrOk es' cl' N' ∧ (∀ c d, relN N' c d ↔ relN N1 c d) ∧ ∃ (j : Nat) (x : Int × GN), N'[j]? = some x ∧ x.1 = k, ?_, ?_⟩
  · rintro vs K2 _ ⟨rfl, es2, cl2, N2, h2, hg2, hr2, j, x, hx, hxk⟩
    have hn2 := outM_keys hg2
    have hget := getM_out hn2 hx
    rw [hxk] at hget
    have hb2 : K2 gr = some (.map es2 cl2) := h2.blk (List.mem_cons_self ..)
    refine den_lookup (α := Int) (m := outM N2) (v := .map (some gr)) k (.map none) uGraphK kIntK (by kernel_rfl) (by kernel_rfl) (by kernel_rfl) ⟨gr, es2, cl2, rfl, hb2, hg2.outer⟩ (by rw [hget]; rfl) pendNil ?_
    rw [hget]
    simp only [Option.getD_some, List.cons_append, List.nil_append]
    have h3 := h2.pick (show (grI N2)[j]? = some (.blk x.2.ref (.map x.2.es x.2.cl)) by rw [grI, List.getElem?_map, hx]; rfl)
    refine den_mapUpdate (α := Int) (m := encS x.2.s) (r := x.2.ref) (es := x.2.es) (clock := x.2.cl) w (.int .i64 1) uInnerK kIntK (by kernel_rfl) (by kernel_rfl) (by kernel_rfl) (h3.blk (List.mem_cons_self ..)) (hg2.inner j x hx) fun es3 cl3 he3 => ?_
    rw [encS_put] at he3
    have h4 := (h3.put (.map es3 cl3)).unpick (by rw [grI, List.length_map]; exact (List.getElem?_eq_some_iff.1 hx).1)
    rw [grI_set (s := addS x.2.s w) hx] at h4
    have hjl := (List.getElem?_eq_some_iff.1 hx).1
    refine ⟨_, lookup_hit, n - 1, by omega, i + 1, es2, cl2, _, ?_, by omega, h4, ⟨by rw [outM_set hx]; exact hg2.outer, fun t y hy => ?_⟩, fun c d => ?_⟩
    · simp only [ev0, ev, evV, List.cons_append, List.nil_append, List.getD_cons_zero, List.getD_cons_succ, List.map_cons, List.map_nil, iOf, bOf, sOf, pOf, slLen, slBase, cmpI, arI, Value.ite_bool, int_beq, int_bne, ite_band, ite_bor]; rw [w64 (by omega) (by omega)]; rfl
    · rw [List.getElem?_set] at hy
      by_cases e : j = t
      · rw [if_pos e, if_pos hjl] at hy; cases hy; exact he3
      · rw [if_neg e] at hy; exact hg2.inner t y hy
    · rw [relN_set (k := w) hn2 hx (fun y => addS_mem _ _ _), hr2, hr1, hxk, or_assoc, ← hstep]
      simp only [or_assoc]
  · have hb1 : K1 gr = some (.map es1 cl1) := h1.blk (List.mem_cons_self ..)
    have hn1 := outM_keys hg1
    by_cases hin : ∃ x ∈ N1, x.1 = k
    · obtain ⟨x, hx, hxk⟩ := hin
      obtain ⟨j, hj⟩ := List.getElem?_of_mem hx
      have hget := getM_out hn1 hj
      rw [hxk] at hget
      refine den_lookup (α := Int) (m := outM N1) (v := .map (some gr)) k (.map none) uGraphK kIntK (by kernel_rfl) (by kernel_rfl) (by kernel_rfl) ⟨gr, es1, cl1, rfl, hb1, hg1.outer⟩ (by rw [hget]; rfl) pendNil ?_
      rw [hget]
      simp only [Option.getD_some, List.cons_append, List.nil_append]
      refine ⟨fun g2 => ?_, fun g2 => ?_⟩
      · simp [evV, ev0, ev, isNilV, bOf] at g2
      · exact ⟨_, lookup_hit, rfl, es1, cl1, N1, h1, hg1, fun c d => Iff.rfl, j, x, hj, hxk⟩
    · have hno : ∀ x ∈ N1, x.1 ≠ k := fun x hx e => hin ⟨x, hx, e⟩
      have hget := getM_outNone hno
      refine den_lookup (α := Int) (m := outM N1) (v := .map (some gr)) k (.map none) uGraphK kIntK (by kernel_rfl) (by kernel_rfl) (by kernel_rfl) ⟨gr, es1, cl1, rfl, hb1, hg1.outer⟩ (by rw [hget]; rfl) pendNil ?_
      rw [hget]
      simp only [Option.getD_none, List.cons_append, List.nil_append]
      refine ⟨fun g2 => ?_, fun g2 => ?_⟩
      · refine den_makeMap fun r hr => ?_
        have h2 := h1.new hr (.map #[] 0)
        simp only [List.cons_append, List.nil_append]
        refine den_mapUpdate (α := Int) (m := outM N1) (r := gr) (es := es1) (clock := cl1) k (.map (some r)) uGraphK kIntK (by kernel_rfl) (by kernel_rfl) (by kernel_rfl) (h2.blk (List.mem_cons_of_mem _ (List.mem_cons_self ..))) hg1.outer fun es3 cl3 he3 => ?_
        have hput : putM (outM N1) k (.map (some r)) = outM (N1 ++ [(k, ⟨r, #[], 0, []⟩)]) := by
          unfold putM
          rw [hget, if_neg (by simp), outM, outM, List.map_append]; rfl
        rw [hput] at he3
        have h3 := ((h2.perm (List.Perm.swap _ _ _)).put (.map es3 cl3))
        have h3' : Held S _ (grB gr es3 cl3 ++ grI (N1 ++ [(k, ⟨r, #[], 0, []⟩)])) := h3.perm (by
          have e : grI (N1 ++ [(k, ⟨r, #[], 0, []⟩)]) = grI N1 ++ [Itm.blk r (.map #[] 0)] := by rw [grI, grI, List.map_append]; rfl
          rw [e]
          exact List.Perm.cons _ (List.perm_append_comm (l₁ := [Itm.blk r (.map #[] 0)]) (l₂ := grI N1)))
        refine ⟨_, lookup_hit, rfl, es3, cl3, _, h3', ⟨he3, fun t y hy => ?_⟩, fun c d => ?_, N1.length, (k, ⟨r, #[], 0, []⟩), by simp, rfl⟩
        · by_cases ht : t < N1.length
          · rw [List.getElem?_append_left ht] at hy; exact hg1.inner t y hy
          · rw [List.getElem?_append_right (by omega)] at hy
            have : y = (k, ⟨r, #[], 0, []⟩) := by
              cases hd : t - N1.length with
              | zero => rw [hd] at hy; simp at hy; exact hy.symm
              | succ m => rw [hd] at hy; simp at hy
            subst this; exact setOk_nil
        · unfold relN
          constructor
          · rintro ⟨y, hy, h4, h5⟩
            rcases List.mem_append.1 hy with hy | hy
            · exact ⟨y, hy, h4, h5⟩
            · rw [List.mem_singleton.1 hy] at h5; cases h5
          · rintro ⟨y, hy, h4, h5⟩
            exact ⟨y, List.mem_append_left _ hy, h4, h5⟩
      · simp [evV, ev0, ev, isNilV, bOf] at g2

/-! ### who meets, by the program -/
theorem Index_gives (l : List Int) (n : Int) (v : Value) (H : PH) (hl : SlR H l v) (hll : l.length ≤ 4000000) : ∃ i : Int, Gives Try.prog n_slices_Index___int_int_ [v, .int .i64 n] H (.int .i64 i) ∧ (i ≥ 0 ↔ n ∈ l) := by
  by_cases hn : n ∈ l
  · obtain ⟨j, hj, hfirst⟩ : ∃ j : Nat, l[j]? = some n ∧ ∀ t : Nat, t < j → l[t]? ≠ some n := by
      obtain ⟨t, ht⟩ := List.getElem?_of_mem hn
      have key : ∀ t : Nat, l[t]? = some n → ∃ j : Nat, l[j]? = some n ∧ ∀ s : Nat, s < j → l[s]? ≠ some n := by
        intro t
        induction t using Nat.strongRecOn with
        | ind t ih =>
          intro ht
          by_cases h : ∃ s : Nat, s < t ∧ l[s]? = some n
          · obtain ⟨s, hs, hsn⟩ := h; exact ih s hs hsn
          · exact ⟨t, ht, fun s hs hsn => h ⟨s, hs, hsn⟩⟩
      exact key t ht
    refine ⟨(j : Int), ?_, ⟨fun _ => hn, fun _ => by omega⟩⟩
    obtain ⟨b1, c1, rfl⟩ := hl.sl
    refine tri_slices_Index___int_int_ [.slice b1 l.length c1, .int .i64 n] (by kernel_rfl) (by kernel_rfl) ?_
    have hjl := (List.getElem?_eq_some_iff.1 hj).1
    refine ⟨fun m vs K => ∃ (z : Int) (k : Nat), vs = [.int .i64 z, nI k] ∧ k + m = l.length ∧ k ≤ j ∧ K = H, ⟨l.length, 0, 0, rfl, by omega, by omega, rfl⟩, ?_⟩
    rintro m vs K _ ⟨z, k, rfl, hkm, hkj, rfl⟩
    refine ⟨fun g => ?_, fun g => ?_⟩
    · simp only [ev0, ev, evV, List.cons_append, List.nil_append, List.getD_cons_zero, List.getD_cons_succ, List.map_cons, List.map_nil, iOf, bOf, sOf, pOf, slLen, slBase, cmpI, arI, Value.ite_bool, int_beq, int_bne, ite_band, ite_bor, decide_eq_true_eq] at g
      obtain ⟨a, ha⟩ : ∃ a, l[k]? = some a := ⟨_, List.getElem?_eq_getElem (by omega)⟩
      obtain ⟨r1, _, rcs, r2, r3⟩ := hl.get ha
      obtain ⟨rfl, _⟩ := csIK r2
      refine ⟨fun _ => ?_, [.int .i64 a], rfl, ?_, fun g2 => ?_, fun g2 => ?_⟩
      · simp only [Chk.holds, ev0, ev, evV, List.cons_append, List.nil_append, List.getD_cons_zero, List.getD_cons_succ, List.map_cons, List.map_nil, iOf, bOf, sOf, pOf, slLen, slBase, cmpI, arI, Value.ite_bool, int_beq, int_bne, ite_band, ite_bor]; exact ⟨r1, by omega, by omega⟩
      · simp only [ev0, ev, evV, List.cons_append, List.nil_append, List.getD_cons_zero, List.getD_cons_succ, List.map_cons, List.map_nil, iOf, bOf, sOf, pOf, slLen, slBase, cmpI, arI, Value.ite_bool, int_beq, int_bne, ite_band, ite_bor]; exact r3
      · simp only [ev0, ev, evV, List.cons_append, List.nil_append, List.getD_cons_zero, List.getD_cons_succ, List.map_cons, List.map_nil, iOf, bOf, sOf, pOf, slLen, slBase, cmpI, arI, Value.ite_bool, int_beq, int_bne, ite_band, ite_bor] at g2
        have hna : n = a := by simpa using g2
        subst hna
        have : k = j := by
          rcases Nat.lt_or_ge k j with h | h
          · exact absurd ha (hfirst k h)
          · omega
        subst this
        exact ⟨rfl, PH.le_refl _⟩
      · simp only [ev0, ev, evV, List.cons_append, List.nil_append, List.getD_cons_zero, List.getD_cons_succ, List.map_cons, List.map_nil, iOf, bOf, sOf, pOf, slLen, slBase, cmpI, arI, Value.ite_bool, int_beq, int_bne, ite_band, ite_bor] at g2
        have hna : n ≠ a := by simpa using g2
        refine ⟨_, lookup_hit, m - 1, by omega, z, k + 1, ?_, by omega, ?_, rfl⟩
        · simp only [ev0, ev, evV, List.cons_append, List.nil_append, List.getD_cons_zero, List.getD_cons_succ, List.map_cons, List.map_nil, iOf, bOf, sOf, pOf, slLen, slBase, cmpI, arI, Value.ite_bool, int_beq, int_bne, ite_band, ite_bor]; rw [w64 (by omega) (by omega)]; rfl
        · rcases Nat.lt_or_ge k j with h | h
          · omega
          · have : k = j := by omega
            subst this
            rw [hj] at ha; cases ha; exact absurd rfl hna
    · simp only [ev0, ev, evV, List.cons_append, List.nil_append, List.getD_cons_zero, List.getD_cons_succ, List.map_cons, List.map_nil, iOf, bOf, sOf, pOf, slLen, slBase, cmpI, arI, Value.ite_bool, int_beq, int_bne, ite_band, ite_bor, decide_eq_false_iff_not] at g
      omega
  · refine ⟨-1, ?_, ⟨fun h => by omega, fun h => absurd h hn⟩⟩
    obtain ⟨b1, c1, rfl⟩ := hl.sl
    refine tri_slices_Index___int_int_ [.slice b1 l.length c1, .int .i64 n] (by kernel_rfl) (by kernel_rfl) ?_
    refine ⟨fun m vs K => ∃ (z : Int) (k : Nat), vs = [.int .i64 z, nI k] ∧ k + m = l.length ∧ K = H, ⟨l.length, 0, 0, rfl, by omega, rfl⟩, ?_⟩
    rintro m vs K _ ⟨z, k, rfl, hkm, rfl⟩
    refine ⟨fun g => ?_, fun g => ⟨rfl, PH.le_refl _⟩⟩
    simp only [ev0, ev, evV, List.cons_append, List.nil_append, List.getD_cons_zero, List.getD_cons_succ, List.map_cons, List.map_nil, iOf, bOf, sOf, pOf, slLen, slBase, cmpI, arI, Value.ite_bool, int_beq, int_bne, ite_band, ite_bor, decide_eq_true_eq] at g
    obtain ⟨a, ha⟩ : ∃ a, l[k]? = some a := ⟨_, List.getElem?_eq_getElem (by omega)⟩
    obtain ⟨r1, _, rcs, r2, r3⟩ := hl.get ha
    obtain ⟨rfl, _⟩ := csIK r2
    refine ⟨fun _ => ?_, [.int .i64 a], rfl, ?_, fun g2 => ?_, fun g2 => ?_⟩
    · simp only [Chk.holds, ev0, ev, evV, List.cons_append, List.nil_append, List.getD_cons_zero, List.getD_cons_succ, List.map_cons, List.map_nil, iOf, bOf, sOf, pOf, slLen, slBase, cmpI, arI, Value.ite_bool, int_beq, int_bne, ite_band, ite_bor]; exact ⟨r1, by omega, by omega⟩
    · simp only [ev0, ev, evV, List.cons_append, List.nil_append, List.getD_cons_zero, List.getD_cons_succ, List.map_cons, List.map_nil, iOf, bOf, sOf, pOf, slLen, slBase, cmpI, arI, Value.ite_bool, int_beq, int_bne, ite_band, ite_bor]; exact r3
    · simp only [ev0, ev, evV, List.cons_append, List.nil_append, List.getD_cons_zero, List.getD_cons_succ, List.map_cons, List.map_nil, iOf, bOf, sOf, pOf, slLen, slBase, cmpI, arI, Value.ite_bool, int_beq, int_bne, ite_band, ite_bor] at g2
      have hna : n = a := by simpa using g2
      exact absurd (hna ▸ List.mem_of_getElem? ha) hn
    · refine ⟨_, lookup_hit, m - 1, by omega, z, k + 1, ?_, by omega, rfl⟩
      simp only [ev0, ev, evV, List.cons_append, List.nil_append, List.getD_cons_zero, List.getD_cons_succ, List.map_cons, List.map_nil, iOf, bOf, sOf, pOf, slLen, slBase, cmpI, arI, Value.ite_bool, int_beq, int_bne, ite_band, ite_bor]; rw [w64 (by omega) (by omega)]; rfl
theorem Contains_gives (l : List Int) (n : Int) (v : Value) (H : PH) (hl : SlR H l v) (hll : l.length ≤ 4000000) : Gives Try.prog n_slices_Contains___int_int_ [v, .int .i64 n] H (.bool (decide (n ∈ l))) := by
  obtain ⟨i, h1, h2⟩ := Index_gives l n v H hl hll
  obtain ⟨b1, c1, rfl⟩ := hl.sl
  refine tri_slices_Contains___int_int_ [.slice b1 l.length c1, .int .i64 n] (by kernel_rfl) (by kernel_rfl) ?_
  refine den_gives [.int .i64 i] cb_slices_Index___int_int_ h1 rfl pendNil fun K1 l1 => ⟨?_, l1⟩
  simp only [ev0, ev, evV, List.cons_append, List.nil_append, List.getD_cons_zero, List.getD_cons_succ, List.map_cons, List.map_nil, iOf, bOf, sOf, pOf, slLen, slBase, cmpI, arI, Value.ite_bool, int_beq, int_bne, ite_band, ite_bor]
  congr 2
  by_cases h : n ∈ l
  · rw [decide_eq_true h, decide_eq_true (h2.2 h)]
  · rw [decide_eq_false h, decide_eq_false (fun hh => h (h2.1 hh))]
end Go.Proofs.Ytlbbmcpppfiplaa.Vc
/-
  COLOUR: who meets, by the program: the walk.
-/
namespace Go.Proofs.Ytlbbmcpppfiplaa.Vc
open Go

theorem rel_join {N N' : List (Int × GN)} {a b : Int} {Q Q' : Int → Int → Prop} (h : ∀ c d, relN N' c d ↔ relN N c d ∨ (a ≠ b ∧ ((c = a ∧ d = b) ∨ (c = b ∧ d = a)))) (hq : ∀ c d, relN N c d ↔ c ≠ d ∧ Q c d) (hq' : ∀ c d, Q' c d ↔ Q c d ∨ (c = a ∧ d = b) ∨ (c = b ∧ d = a)) (c d : Int) : relN N' c d ↔ c ≠ d ∧ Q' c d := by
  rw [h, hq, hq']
  constructor
  · rintro (⟨h1, h2⟩ | ⟨h1, h2 | h2⟩)
    · exact ⟨h1, .inl h2⟩
    · exact ⟨by rw [h2.1, h2.2]; exact h1, .inr (.inl h2)⟩
    · exact ⟨by rw [h2.1, h2.2]; exact Ne.symm h1, .inr (.inr h2)⟩
  · rintro ⟨h1, h2 | h2 | h2⟩
    · exact .inl ⟨h1, h2⟩
    · exact .inr ⟨by rw [← h2.1, ← h2.2]; exact h1, .inl h2⟩
    · exact .inr ⟨by rw [← h2.1, ← h2.2]; exact Ne.symm h1, .inr h2⟩
def symL (t : Int) (l : List Int) (c d : Int) : Prop := (c = t ∧ d ∈ l) ∨ (d = t ∧ c ∈ l)
theorem symL_step {t r : Int} {l : List Int} {j : Nat} (h : l[j]? = some r) (c d : Int) : symL t (l.take (j + 1)) c d ↔ symL t (l.take j) c d ∨ (c = t ∧ d = r) ∨ (c = r ∧ d = t) := by
  unfold symL
  rw [List.take_add_one, h]
  simp only [Option.toList_some, List.mem_append, List.mem_singleton]
  constructor
  · rintro (⟨h1, h2 | h2⟩ | ⟨h1, h2 | h2⟩)
    · exact .inl (.inl ⟨h1, h2⟩)
    · exact .inr (.inl ⟨h1, h2⟩)
    · exact .inl (.inr ⟨h1, h2⟩)
    · exact .inr (.inr ⟨h2, h1⟩)
  · rintro ((⟨h1, h2⟩ | ⟨h1, h2⟩) | ⟨h1, h2⟩ | ⟨h1, h2⟩)
    · exact .inl ⟨h1, .inl h2⟩
    · exact .inr ⟨h1, .inl h2⟩
    · exact .inl ⟨h1, .inr h2⟩
    · exact .inr ⟨h2, .inr h1⟩
noncomputable def selL (x : InsX) (l : List Int) : List Int := if x.op = moveB then lessL l x.args else l
theorem selL_step {x : InsX} {l : List Int} {j : Nat} {r : Int} (h : l[j]? = some r) : selL x (l.take (j + 1)) = selL x (l.take j) ++ if x.op = moveB ∧ r ∈ x.args then [] else [r] := by
  unfold selL lessL
  rw [List.take_add_one, h]
  by_cases hm : x.op = moveB
  · rw [if_pos hm, if_pos hm]
    simp only [Option.toList_some, List.filter_append]
    congr 1
    by_cases hr : r ∈ x.args
    · rw [if_pos ⟨hm, hr⟩]; simp [List.filter_cons, hr]
    · rw [if_neg (fun hh => hr hh.2)]; simp [List.filter_cons, hr]
  · rw [if_neg hm, if_neg hm, if_neg (fun hh => hm hh.1)]; rfl
set_option maxHeartbeats 4000000 in
theorem Meets_tri (p : PrcX) (bv : Value) (S : PH) (hbv : SlR S p.blocks bv) (hw : p.wt ≤ 1048576) (hmay : mayP p = true) :
    Tri Try.prog n_color_meets #[.agg (prcVs p bv).toArray] S fun x S' => ∃ S1 gr es cl N, PH.le S S1 ∧ x = .returned (.map (some gr)) ∧ Held S1 S' (grB gr es cl ++ grI N) ∧ GrOk es cl N ∧ ∀ a b, relN N a b ↔ a ≠ b ∧ MeetP p a b := by
  obtain ⟨hp, hE⟩ := PrcX.fit_wt hw
  have hN := hp.n
  obtain ⟨hr0, hr1, _, _, hne⟩ := may_head hmay
  have hb0 : 0 < p.blocks.length := List.length_pos_iff.2 hne
  obtain ⟨b0, c0, rfl⟩ := hbv.sl
  refine tri_color_meets (prcVs p (.slice b0 p.blocks.length c0)) (by kernel_rfl) (by kernel_rfl) ?_
  simp only [prcVs]
  refine den_makeMap fun gr hgr => ?_
  have h1 := (Held.nil (PH.le_refl S)).new hgr (.map #[] 0)
  refine den_call cb_live_In (h1.pure (R := fun x S' => ∃ v, x = .returned v ∧ SlR S' (inL p) v) (LIn_tri p (.slice b0 p.blocks.length c0) S hbv hp hE)) ?_
  rintro x K2 ⟨S2, l2, h2, iv, rfl, hiv⟩
  obtain ⟨b2, c2, rfl⟩ : ∃ b c, iv = .slice b p.blocks.length c := by rw [← inL_len p]; exact hiv.sl
  refine ⟨_, [.slice b2 p.blocks.length c2], rfl, rfl, rfl, pendNil, ?_⟩
  simp only [List.cons_append, List.nil_append]
  obtain ⟨a1, _, acs, a2, a3⟩ := hiv.get (inL_get (p := p) (i := 0) hb0)
  obtain ⟨av, rfl, a4⟩ := csLK a2
  obtain ⟨ab, ac, rfl⟩ := a4.sl
  have hlen0 := liveL_len hp 0 0
  have ham := a4.max
  have g0 : ∀ {K : PH}, PH.le S2 K → rowAt K (pOf (eltV (.slice b2 p.blocks.length c2) 0 1)) [.slice ab (liveL p 0 0).length ac] := fun h => rowAt_le h a3
  refine ⟨fun _ => ?_, [.slice ab (liveL p 0 0).length ac], rfl, ?_, ?_⟩
  · simp only [Chk.holds, ev0, ev, evV, List.cons_append, List.nil_append, List.getD_cons_zero, List.getD_cons_succ, List.map_cons, List.map_nil, iOf, bOf, sOf, pOf, slLen, slBase, cmpI, arI, Value.ite_bool, int_beq, int_bne, ite_band, ite_bor]; exact ⟨a1, by omega, by omega⟩
  · simp only [ev0, ev, evV, List.cons_append, List.nil_append, List.getD_cons_zero, List.getD_cons_succ, List.map_cons, List.map_nil, iOf, bOf, sOf, pOf, slLen, slBase, cmpI, arI, Value.ite_bool, int_beq, int_bne, ite_band, ite_bor]; exact g0 h2.sh
  simp only [List.cons_append, List.nil_append]
  -- those at the beginning
  refine ⟨fun n vs K => ∃ (i : Nat) (es : Array MapEntry) (cl : Nat) (N : List (Int × GN)), vs = [nI i] ∧ i + n = (liveL p 0 0).length ∧ Held S2 K (grB gr es cl ++ grI N) ∧ GrOk es cl N ∧ ∀ c d, relN N c d ↔ c ≠ d ∧ (c ∈ (liveL p 0 0).take i ∧ d ∈ (liveL p 0 0).take i),
    ⟨(liveL p 0 0).length, 0, #[], 0, [], rfl, by omega, h2, ⟨EntsR.empty, fun j x h => by simp at h⟩, fun c d => by simp [relN]⟩, ?_⟩
  rintro n vs K3 _ ⟨i, es3, cl3, N3, rfl, hin, h3, ok3, r3⟩
  simp only [List.cons_append, List.nil_append]
  refine ⟨fun g => ?_, fun g => ?_⟩
  · simp only [ev0, ev, evV, List.cons_append, List.nil_append, List.getD_cons_zero, List.getD_cons_succ, List.map_cons, List.map_nil, iOf, bOf, sOf, pOf, slLen, slBase, cmpI, arI, Value.ite_bool, int_beq, int_bne, ite_band, ite_bor, decide_eq_true_eq] at g
    obtain ⟨x, hx⟩ : ∃ x, (liveL p 0 0)[i]? = some x := ⟨_, List.getElem?_eq_getElem (show i < (liveL p 0 0).length by omega)⟩
    obtain ⟨x1, _, xcs, x2, x3⟩ := (a4.le h3.sh).get hx
    obtain ⟨rfl, _⟩ := csIK x2
    have hcut := a4.cut (Nat.zero_le i) (show i ≤ (liveL p 0 0).length by omega)
    rw [List.drop_zero] at hcut
    have hctl : ((liveL p 0 0).take i).length = i := by rw [List.length_take]; omega
    refine ⟨fun _ => ?_, [.int .i64 x], rfl, ?_, [.slice ab (liveL p 0 0).length ac], rfl, ?_, fun _ => ?_, ?_⟩
    · simp only [Chk.holds, ev0, ev, evV, List.cons_append, List.nil_append, List.getD_cons_zero, List.getD_cons_succ, List.map_cons, List.map_nil, iOf, bOf, sOf, pOf, slLen, slBase, cmpI, arI, Value.ite_bool, int_beq, int_bne, ite_band, ite_bor]; exact ⟨x1, by omega, by omega⟩
    · simp only [ev0, ev, evV, List.cons_append, List.nil_append, List.getD_cons_zero, List.getD_cons_succ, List.map_cons, List.map_nil, iOf, bOf, sOf, pOf, slLen, slBase, cmpI, arI, Value.ite_bool, int_beq, int_bne, ite_band, ite_bor]; exact x3
    · simp only [ev0, ev, evV, List.cons_append, List.nil_append, List.getD_cons_zero, List.getD_cons_succ, List.map_cons, List.map_nil, iOf, bOf, sOf, pOf, slLen, slBase, cmpI, arI, Value.ite_bool, int_beq, int_bne, ite_band, ite_bor]; exact g0 h3.sh
    · have hcap := (SlR.mk_iff.1 a4)
      have : (liveL p 0 0).length ≤ ac := by
        rcases hcap.2 with ⟨h, h'⟩ | ⟨ad, c, h, h', _⟩
        · rw [h'] at hx; simp at hx
        · cases h; exact h'
      simp only [Chk.holds, ev0, ev, evV, List.cons_append, List.nil_append, List.getD_cons_zero, List.getD_cons_succ, List.map_cons, List.map_nil, iOf, bOf, sOf, pOf, slLen, slBase, cmpI, arI, Value.ite_bool, int_beq, int_bne, ite_band, ite_bor, slCap]; omega
    simp only [List.cons_append, List.nil_append]
    refine ⟨fun n vs K => ∃ (j : Nat) (es : Array MapEntry) (cl : Nat) (N : List (Int × GN)), vs = [nI j] ∧ j + n = i ∧ Held S2 K (grB gr es cl ++ grI N) ∧ GrOk es cl N ∧ ∀ c d, relN N c d ↔ c ≠ d ∧ ((c ∈ (liveL p 0 0).take i ∧ d ∈ (liveL p 0 0).take i) ∨ symL x ((liveL p 0 0).take j) c d),
      ⟨i, 0, es3, cl3, N3, rfl, by omega, h3, ok3, fun c d => by rw [r3]; simp [symL]⟩, ?_⟩
    rintro n4 vs K4 _ ⟨j, es4, cl4, N4, rfl, hjn, h4, ok4, r4⟩
    simp only [List.cons_append, List.nil_append]
    refine ⟨fun g4 => ?_, fun g4 => ?_⟩
    · have hji : j < i := by
        simp only [ev0, ev, evV, List.cons_append, List.nil_append, List.getD_cons_zero, List.getD_cons_succ, List.map_cons, List.map_nil, iOf, bOf, sOf, pOf, slLen, slBase, cmpI, arI, Value.ite_bool, int_beq, int_bne, ite_band, ite_bor, slsV, decide_eq_true_eq] at g4
        omega
      obtain ⟨y, hy⟩ : ∃ y, (liveL p 0 0)[j]? = some y := ⟨_, List.getElem?_eq_getElem (show j < (liveL p 0 0).length by omega)⟩
      have hy2 : ((liveL p 0 0).take i)[j]? = some y := by rw [List.getElem?_take, if_pos hji]; exact hy
      obtain ⟨y1, _, ycs, y2, y3⟩ := (hcut.le h4.sh).get hy2
      obtain ⟨rfl, _⟩ := csIK y2
      refine ⟨fun _ => ?_, [.int .i64 y], rfl, ?_, ?_⟩
      · simp only [Chk.holds, ev0, ev, evV, List.cons_append, List.nil_append, List.getD_cons_zero, List.getD_cons_succ, List.map_cons, List.map_nil, iOf, bOf, sOf, pOf, slLen, slBase, cmpI, arI, Value.ite_bool, int_beq, int_bne, ite_band, ite_bor]
        refine ⟨y1, by omega, ?_⟩
        simp only [slsV, slLen]; omega
      · simp only [ev0, ev, evV, List.cons_append, List.nil_append, List.getD_cons_zero, List.getD_cons_succ, List.map_cons, List.map_nil, iOf, bOf, sOf, pOf, slLen, slBase, cmpI, arI, Value.ite_bool, int_beq, int_bne, ite_band, ite_bor]; exact y3
      refine den_call cb_color_graph_int___join (join_tri gr es4 cl4 N4 x y S2 K4 h4 ok4) ?_
      rintro e K5 ⟨es5, cl5, N5, rfl, h5, ok5, r5⟩
      refine ⟨_, [], rfl, rfl, rfl, pendNil, _, lookup_hit, n4 - 1, by omega, j + 1, es5, cl5, N5, ?_, by omega, h5, ok5, rel_join r5 r4 fun c d => ?_⟩
      · simp only [ev0, ev, evV, List.cons_append, List.nil_append, List.getD_cons_zero, List.getD_cons_succ, List.map_cons, List.map_nil, iOf, bOf, sOf, pOf, slLen, slBase, cmpI, arI, Value.ite_bool, int_beq, int_bne, ite_band, ite_bor]; rw [w64 (by omega) (by omega)]; rfl
      · rw [symL_step hy, or_assoc]
    · have hji : j = i := by
        simp only [ev0, ev, evV, List.cons_append, List.nil_append, List.getD_cons_zero, List.getD_cons_succ, List.map_cons, List.map_nil, iOf, bOf, sOf, pOf, slLen, slBase, cmpI, arI, Value.ite_bool, int_beq, int_bne, ite_band, ite_bor, slsV, decide_eq_false_iff_not] at g4
        omega
      subst hji
      refine ⟨_, lookup_skip rfl lookup_hit, n - 1, by omega, j + 1, es4, cl4, N4, ?_, by omega, h4, ok4, fun c d => ?_⟩
      · simp only [ev0, ev, evV, List.cons_append, List.nil_append, List.getD_cons_zero, List.getD_cons_succ, List.map_cons, List.map_nil, iOf, bOf, sOf, pOf, slLen, slBase, cmpI, arI, Value.ite_bool, int_beq, int_bne, ite_band, ite_bor]; rw [w64 (by omega) (by omega)]; rfl
      · rw [r4, List.take_add_one, hx]
        simp only [Option.toList_some, List.mem_append, List.mem_singleton, symL]
        constructor
        · rintro ⟨h1, ⟨h2, h3⟩ | ⟨h2, h3⟩ | ⟨h2, h3⟩⟩
          · exact ⟨h1, .inl h2, .inl h3⟩
          · exact ⟨h1, .inr h2, .inl h3⟩
          · exact ⟨h1, .inl h3, .inr h2⟩
        · rintro ⟨h1, h2 | h2, h3 | h3⟩
          · exact ⟨h1, .inl ⟨h2, h3⟩⟩
          · exact ⟨h1, .inr (.inr ⟨h3, h2⟩)⟩
          · exact ⟨h1, .inr (.inl ⟨h2, h3⟩)⟩
          · exact absurd (h2.trans h3.symm) h1
  simp only [ev0, ev, evV, List.cons_append, List.nil_append, List.getD_cons_zero, List.getD_cons_succ, List.map_cons, List.map_nil, iOf, bOf, sOf, pOf, slLen, slBase, cmpI, arI, Value.ite_bool, int_beq, int_bne, ite_band, ite_bor, decide_eq_false_iff_not] at g
  rw [List.take_of_length_le (by omega)] at r3
  -- those that something fills
  have hbv2 := hbv.le l2
  refine ⟨fun n vs K => ∃ (k : Nat) (es : Array MapEntry) (cl : Nat) (N : List (Int × GN)) (S' : PH), vs = [nI k] ∧ k + n = p.blocks.length ∧ PH.le S2 S' ∧ Held S' K (grB gr es cl ++ grI N) ∧ GrOk es cl N ∧ ∀ c d, relN N c d ↔ c ≠ d ∧ ((c ∈ liveL p 0 0 ∧ d ∈ liveL p 0 0) ∨ ∃ f ∈ fillsTo p k, f.sym c d),
    ⟨p.blocks.length, 0, es3, cl3, N3, S2, rfl, by omega, PH.le_refl _, h3, ok3, fun c d => by rw [r3]; simp [fillsTo]⟩, ?_⟩
  rintro n5 vs K5 _ ⟨k, es5, cl5, N5, S5, rfl, hkn, le5, h5, ok5, r5⟩
  simp only [List.cons_append, List.nil_append]
  refine ⟨fun g5 => ?_, fun g5 => ?_⟩
  rotate_left
  · simp only [ev0, ev, evV, List.cons_append, List.nil_append, List.getD_cons_zero, List.getD_cons_succ, List.map_cons, List.map_nil, iOf, bOf, sOf, pOf, slLen, slBase, cmpI, arI, Value.ite_bool, int_beq, int_bne, ite_band, ite_bor, decide_eq_false_iff_not] at g5
    have : k = p.blocks.length := by omega
    subst this
    exact ⟨S5, gr, es5, cl5, N5, PH.le_trans l2 le5, rfl, h5, ok5, r5⟩
  simp only [ev0, ev, evV, List.cons_append, List.nil_append, List.getD_cons_zero, List.getD_cons_succ, List.map_cons, List.map_nil, iOf, bOf, sOf, pOf, slLen, slBase, cmpI, arI, Value.ite_bool, int_beq, int_bne, ite_band, ite_bor, decide_eq_true_eq] at g5
  have hk : k < p.blocks.length := by omega
  obtain ⟨b, hb⟩ : ∃ b, p.blocks[k]? = some b := ⟨_, List.getElem?_eq_getElem hk⟩
  have hbl := hp.ins b (List.mem_of_getElem? hb)
  obtain ⟨q1, _, ces, q2, q3⟩ := (hbv2.le le5).get hb
  obtain ⟨iv, es, rfl, his, hes⟩ := blk_iff.1 q2
  obtain ⟨ev, rfl, e1, e2, hea, e3, e4, e5⟩ := end_iff.1 hes
  obtain ⟨bi, ci, rfl⟩ := his.sl
  obtain ⟨be, ce, rfl⟩ := hea.sl
  have hbe : behindL p (k : Int) = behL p k b := by
    unfold behindL
    rw [if_neg (by omega), Int.toNat_natCast, hb]
  refine ⟨fun vs K' => vs = [] ∧ ∃ (es : Array MapEntry) (cl : Nat) (N : List (Int × GN)) (S' : PH), PH.le S5 S' ∧ Held S' K' (grB gr es cl ++ grI N) ∧ GrOk es cl N ∧ ∀ c d, relN N c d ↔ c ≠ d ∧ ((c ∈ liveL p 0 0 ∧ d ∈ liveL p 0 0) ∨ ∃ f ∈ fillsTo p (k + 1), f.sym c d), ?_, fun _ => ?_, [.slice bi b.ins.length ci, .int .i64 b.e.kind, .int .i64 b.e.reg, .slice be b.e.args.length ce, .int .i64 b.e.to, .int .i64 b.e.next, .int .i64 b.e.els], rfl, ?_, ?_⟩
  · rintro vs K' _ ⟨rfl, es', cl', N', S', l', h', ok', r'⟩
    refine ⟨_, lookup_hit, n5 - 1, by omega, k + 1, es', cl', N', S', ?_, by omega, PH.le_trans le5 l', h', ok', r'⟩
    simp only [ev0, ev, evV, List.cons_append, List.nil_append, List.getD_cons_zero, List.getD_cons_succ, List.map_cons, List.map_nil, iOf, bOf, sOf, pOf, slLen, slBase, cmpI, arI, Value.ite_bool, int_beq, int_bne, ite_band, ite_bor]; rw [w64 (by omega) (by omega)]; rfl
  · simp only [Chk.holds, ev0, ev, evV, List.cons_append, List.nil_append, List.getD_cons_zero, List.getD_cons_succ, List.map_cons, List.map_nil, iOf, bOf, sOf, pOf, slLen, slBase, cmpI, arI, Value.ite_bool, int_beq, int_bne, ite_band, ite_bor]; exact ⟨q1, by omega, by omega⟩
  · simp only [ev0, ev, evV, List.cons_append, List.nil_append, List.getD_cons_zero, List.getD_cons_succ, List.map_cons, List.map_nil, iOf, bOf, sOf, pOf, slLen, slBase, cmpI, arI, Value.ite_bool, int_beq, int_bne, ite_band, ite_bor]; exact rowAt_le h5.sh q3
  simp only [List.cons_append, List.nil_append]
  refine den_call cb_live_Behind (h5.pure (R := fun x S' => ∃ v, x = .returned v ∧ SlR S' (behindL p (k : Int)) v) (LBehind_tri p (.slice b0 p.blocks.length c0) (k : Int) S5 (hbv2.le le5) hp hE)) ?_
  rintro x K6 ⟨S6, l6, h6, wv, rfl, hwv⟩
  rw [hbe] at hwv
  obtain ⟨b6, c6, rfl⟩ : ∃ b' c, wv = .slice b' b.ins.length c := by rw [← behL_len p k b]; exact hwv.sl
  refine ⟨_, [.slice b6 b.ins.length c6], rfl, rfl, rfl, pendNil, ?_⟩
  simp only [List.cons_append, List.nil_append]
  refine ⟨fun n vs K => ∃ (i : Nat) (es : Array MapEntry) (cl : Nat) (N : List (Int × GN)), vs = [nI i] ∧ i + n = b.ins.length ∧ Held S6 K (grB gr es cl ++ grI N) ∧ GrOk es cl N ∧ ∀ c d, relN N c d ↔ c ≠ d ∧ (((c ∈ liveL p 0 0 ∧ d ∈ liveL p 0 0) ∨ ∃ f ∈ fillsTo p k, f.sym c d) ∨ ∃ f ∈ insFills p k b i, f.sym c d),
    ⟨b.ins.length, 0, es5, cl5, N5, rfl, by omega, h6, ok5, fun c d => by rw [r5]; simp [insFills]⟩, ?_⟩
  rintro n7 vs K7 _ ⟨i, es7, cl7, N7, rfl, hin7, h7, ok7, r7⟩
  simp only [List.cons_append, List.nil_append]
  refine ⟨fun g7 => ?_, fun g7 => ?_⟩
  · simp only [ev0, ev, evV, List.cons_append, List.nil_append, List.getD_cons_zero, List.getD_cons_succ, List.map_cons, List.map_nil, iOf, bOf, sOf, pOf, slLen, slBase, cmpI, arI, Value.ite_bool, int_beq, int_bne, ite_band, ite_bor, decide_eq_true_eq] at g7
    have hib : i < b.ins.length := by omega
    obtain ⟨x, hx⟩ : ∃ x, b.ins[i]? = some x := ⟨_, List.getElem?_eq_getElem hib⟩
    obtain ⟨z1, _, zcs, z2, z3⟩ := (hwv.le h7.sh).get (behL_get (p := p) (i := k) hib)
    obtain ⟨zv, rfl, z4⟩ := csLK z2
    obtain ⟨zb, zc, rfl⟩ := z4.sl
    have hl2 := liveL_len hp k (i + 1)
    have hisK := (his.le l6).le h7.sh
    obtain ⟨y1, _, ycs, y2, y3⟩ := hisK.get hx
    obtain ⟨arv, dv, rfl, _, x2, hya, _, _, _, hyd, _⟩ := ins_iff.1 y2
    obtain ⟨rb, rc, rfl⟩ := hya.sl
    obtain ⟨db, dc, rfl⟩ := hyd.sl
    have hargs : x.args.length ≤ 4000000 := by
      have h1 := flatMap_wt BlkX.wt BlkX.regs BlkX.regs_wt p.blocks
      have h2 := sumWt_mem BlkX.wt (List.mem_of_getElem? hb)
      have h3 := sumWt_mem InsX.wt (List.mem_of_getElem? hx)
      have h4 := x.args_wt
      have h5 : b.wt = sumWt InsX.wt b.ins + 1 + b.e.wt := rfl
      have h6 : p.wt = 1 + 1 + 1 + (sumWt BlkX.wt p.blocks + 1) := rfl
      omega
    refine ⟨fun vs K' => vs = [] ∧ ∃ (es : Array MapEntry) (cl : Nat) (N : List (Int × GN)), Held S6 K' (grB gr es cl ++ grI N) ∧ GrOk es cl N ∧ ∀ c d, relN N c d ↔ c ≠ d ∧ (((c ∈ liveL p 0 0 ∧ d ∈ liveL p 0 0) ∨ ∃ f ∈ fillsTo p k, f.sym c d) ∨ ∃ f ∈ insFills p k b (i + 1), f.sym c d), ?_, fun _ => ?_, [.slice zb (liveL p k (i + 1)).length zc], rfl, ?_, fun _ => ?_, [txt x.op, .int .i64 x.to, .slice rb x.args.length rc, .int .i64 x.const.kind, .int .i64 x.const.int, txt x.const.text, .slice db x.const.list.length dc, .int .i64 x.num], rfl, ?_, fun g8 => ?_, fun g8 => ?_⟩
    · rintro vs K' _ ⟨rfl, es', cl', N', h', ok', r'⟩
      refine ⟨_, lookup_hit, n7 - 1, by omega, i + 1, es', cl', N', ?_, by omega, h', ok', r'⟩
      simp only [ev0, ev, evV, List.cons_append, List.nil_append, List.getD_cons_zero, List.getD_cons_succ, List.map_cons, List.map_nil, iOf, bOf, sOf, pOf, slLen, slBase, cmpI, arI, Value.ite_bool, int_beq, int_bne, ite_band, ite_bor]; rw [w64 (by omega) (by omega)]; rfl
    · simp only [Chk.holds, ev0, ev, evV, List.cons_append, List.nil_append, List.getD_cons_zero, List.getD_cons_succ, List.map_cons, List.map_nil, iOf, bOf, sOf, pOf, slLen, slBase, cmpI, arI, Value.ite_bool, int_beq, int_bne, ite_band, ite_bor]; exact ⟨z1, by omega, by omega⟩
    · simp only [ev0, ev, evV, List.cons_append, List.nil_append, List.getD_cons_zero, List.getD_cons_succ, List.map_cons, List.map_nil, iOf, bOf, sOf, pOf, slLen, slBase, cmpI, arI, Value.ite_bool, int_beq, int_bne, ite_band, ite_bor]; exact z3
    · simp only [Chk.holds, ev0, ev, evV, List.cons_append, List.nil_append, List.getD_cons_zero, List.getD_cons_succ, List.map_cons, List.map_nil, iOf, bOf, sOf, pOf, slLen, slBase, cmpI, arI, Value.ite_bool, int_beq, int_bne, ite_band, ite_bor]; exact ⟨y1, by omega, by omega⟩
    · simp only [ev0, ev, evV, List.cons_append, List.nil_append, List.getD_cons_zero, List.getD_cons_succ, List.map_cons, List.map_nil, iOf, bOf, sOf, pOf, slLen, slBase, cmpI, arI, Value.ite_bool, int_beq, int_bne, ite_band, ite_bor]; exact y3
    · simp only [ev0, ev, evV, List.cons_append, List.nil_append, List.getD_cons_zero, List.getD_cons_succ, List.map_cons, List.map_nil, iOf, bOf, sOf, pOf, slLen, slBase, cmpI, arI, Value.ite_bool, int_beq, int_bne, ite_band, ite_bor, txt_eqK] at g8
      have hop : x.op = tieB := by simpa using g8
      exact ⟨_, lookup_hit, rfl, es7, cl7, N7, h7, ok7, fun c d => by rw [insFills_step hx, insFill, if_pos hop, List.append_nil]; exact r7 c d⟩
    simp only [ev0, ev, evV, List.cons_append, List.nil_append, List.getD_cons_zero, List.getD_cons_succ, List.map_cons, List.map_nil, iOf, bOf, sOf, pOf, slLen, slBase, cmpI, arI, Value.ite_bool, int_beq, int_bne, ite_band, ite_bor, txt_eqK] at g8
    have hop : x.op ≠ tieB := by simpa using g8
    simp only [List.cons_append, List.nil_append]
    refine ⟨fun n vs K => ∃ (j : Nat) (es : Array MapEntry) (cl : Nat) (N : List (Int × GN)), vs = [nI j] ∧ j + n = (liveL p k (i + 1)).length ∧ PH.le K7 K7 ∧ Held S6 K (grB gr es cl ++ grI N) ∧ GrOk es cl N ∧ ∀ c d, relN N c d ↔ c ≠ d ∧ ((((c ∈ liveL p 0 0 ∧ d ∈ liveL p 0 0) ∨ ∃ f ∈ fillsTo p k, f.sym c d) ∨ ∃ f ∈ insFills p k b i, f.sym c d) ∨ symL x.to (selL x ((liveL p k (i + 1)).take j)) c d),
      ⟨(liveL p k (i + 1)).length, 0, es7, cl7, N7, rfl, by omega, PH.le_refl _, h7, ok7, fun c d => by rw [r7]; simp [symL, selL, lessL]⟩, ?_⟩
    rintro n8 vs K8 _ ⟨j, es8, cl8, N8, rfl, hjn, _, h8, ok8, r8⟩
    simp only [List.cons_append, List.nil_append]
    obtain ⟨zz1, _, zzcs, zz2, zz3⟩ := hwv.get (behL_get (p := p) (i := k) hib)
    obtain ⟨zzv, rfl, zz4⟩ := csLK zz2
    obtain ⟨zzb, zzc, rfl⟩ := zz4.sl
    have hsame : (Value.slice zzb (liveL p k (i + 1)).length zzc) = .slice zb (liveL p k (i + 1)).length zc := by
      obtain ⟨ad1, e1, f1⟩ := z3
      obtain ⟨ad2, e2, f2⟩ := rowAt_le h7.sh zz3
      rw [e1] at e2; cases e2
      have h1 := f1 0 _ rfl
      have h2 := f2 0 _ rfl
      rw [h1] at h2; exact (Option.some.inj h2).symm
    rw [hsame] at zz4
    refine ⟨fun g9 => ?_, fun g9 => ?_⟩
    · simp only [ev0, ev, evV, List.cons_append, List.nil_append, List.getD_cons_zero, List.getD_cons_succ, List.map_cons, List.map_nil, iOf, bOf, sOf, pOf, slLen, slBase, cmpI, arI, Value.ite_bool, int_beq, int_bne, ite_band, ite_bor, decide_eq_true_eq] at g9
      obtain ⟨r, hr⟩ : ∃ r, (liveL p k (i + 1))[j]? = some r := ⟨_, List.getElem?_eq_getElem (show j < (liveL p k (i + 1)).length by omega)⟩
      obtain ⟨w1, _, wcs, w2, w3⟩ := (zz4.le h8.sh).get hr
      obtain ⟨rfl, _⟩ := csIK w2
      have hyaK : SlR K8 x.args (.slice rb x.args.length rc) := by
        obtain ⟨u1, _, ucs, u2, u3⟩ := (his.le l6).get hx
        obtain ⟨arv2, dv2, rfl, _, _, hya2, _⟩ := ins_iff.1 u2
        obtain ⟨rb2, rc2, rfl⟩ := hya2.sl
        have hs2 : (Value.slice rb2 x.args.length rc2) = .slice rb x.args.length rc := by
          obtain ⟨ad1, e1, f1⟩ := y3
          obtain ⟨ad2, e2, f2⟩ := rowAt_le h7.sh u3
          rw [e1] at e2; cases e2
          have h1 := f1 2 _ rfl
          have h2 := f2 2 _ rfl
          rw [h1] at h2; exact (Option.some.inj h2).symm
        rw [hs2] at hya2
        exact hya2.le h8.sh
      refine ⟨fun vs K' => vs = [] ∧ ∃ (es : Array MapEntry) (cl : Nat) (N : List (Int × GN)), Held S6 K' (grB gr es cl ++ grI N) ∧ GrOk es cl N ∧ ∀ c d, relN N c d ↔ c ≠ d ∧ ((((c ∈ liveL p 0 0 ∧ d ∈ liveL p 0 0) ∨ ∃ f ∈ fillsTo p k, f.sym c d) ∨ ∃ f ∈ insFills p k b i, f.sym c d) ∨ symL x.to (selL x ((liveL p k (i + 1)).take (j + 1))) c d), ?_, fun _ => ?_, [.int .i64 r], rfl, ?_, ?_⟩
      · rintro vs K' _ ⟨rfl, es', cl', N', h', ok', r'⟩
        refine ⟨_, lookup_hit, n8 - 1, by omega, j + 1, es', cl', N', ?_, by omega, PH.le_refl _, h', ok', r'⟩
        simp only [ev0, ev, evV, List.cons_append, List.nil_append, List.getD_cons_zero, List.getD_cons_succ, List.map_cons, List.map_nil, iOf, bOf, sOf, pOf, slLen, slBase, cmpI, arI, Value.ite_bool, int_beq, int_bne, ite_band, ite_bor]; rw [w64 (by omega) (by omega)]; rfl
      · simp only [Chk.holds, ev0, ev, evV, List.cons_append, List.nil_append, List.getD_cons_zero, List.getD_cons_succ, List.map_cons, List.map_nil, iOf, bOf, sOf, pOf, slLen, slBase, cmpI, arI, Value.ite_bool, int_beq, int_bne, ite_band, ite_bor]; exact ⟨w1, by omega, by omega⟩
      · simp only [ev0, ev, evV, List.cons_append, List.nil_append, List.getD_cons_zero, List.getD_cons_succ, List.map_cons, List.map_nil, iOf, bOf, sOf, pOf, slLen, slBase, cmpI, arI, Value.ite_bool, int_beq, int_bne, ite_band, ite_bor]; exact w3
      simp only [List.cons_append, List.nil_append]
      refine ⟨fun vs K' => vs = [.bool (!decide (x.op = moveB ∧ r ∈ x.args))] ∧ Held S6 K' (grB gr es8 cl8 ++ grI N8), ?_, fun g10 => ?_, fun g10 => ?_⟩
      · rintro vs K9 _ ⟨rfl, h9⟩
        refine ⟨fun g11 => ?_, fun g11 => ?_⟩
        · simp only [ev0, ev, evV, List.cons_append, List.nil_append, List.getD_cons_zero, List.getD_cons_succ, List.map_cons, List.map_nil, iOf, bOf, sOf, pOf, slLen, slBase, cmpI, arI, Value.ite_bool, int_beq, int_bne, ite_band, ite_bor] at g11
          have hsel : ¬ (x.op = moveB ∧ r ∈ x.args) := fun hh => by rw [decide_eq_true hh] at g11; cases g11
          refine den_call cb_color_graph_int___join (join_tri gr es8 cl8 N8 x.to r S6 K9 h9 ok8) ?_
          rintro e K10 ⟨es10, cl10, N10, rfl, h10, ok10, r10⟩
          refine ⟨_, [], rfl, rfl, rfl, pendNil, _, lookup_hit, rfl, es10, cl10, N10, h10, ok10, rel_join r10 r8 fun c d => ?_⟩
          rw [selL_step hr, if_neg hsel]
          unfold symL
          simp only [List.mem_append, List.mem_singleton]
          constructor
          · rintro (h | ⟨h1, h2 | h2⟩ | ⟨h1, h2 | h2⟩)
            · exact .inl (.inl h)
            · exact .inl (.inr (.inl ⟨h1, h2⟩))
            · exact .inr (.inl ⟨h1, h2⟩)
            · exact .inl (.inr (.inr ⟨h1, h2⟩))
            · exact .inr (.inr ⟨h2, h1⟩)
          · rintro ((h | ⟨h1, h2⟩ | ⟨h1, h2⟩) | ⟨h1, h2⟩ | ⟨h1, h2⟩)
            · exact .inl h
            · exact .inr (.inl ⟨h1, .inl h2⟩)
            · exact .inr (.inr ⟨h1, .inl h2⟩)
            · exact .inr (.inl ⟨h1, .inr h2⟩)
            · exact .inr (.inr ⟨h2, .inr h1⟩)
        · simp only [ev0, ev, evV, List.cons_append, List.nil_append, List.getD_cons_zero, List.getD_cons_succ, List.map_cons, List.map_nil, iOf, bOf, sOf, pOf, slLen, slBase, cmpI, arI, Value.ite_bool, int_beq, int_bne, ite_band, ite_bor] at g11
          have hsel : x.op = moveB ∧ r ∈ x.args := Decidable.byContradiction fun hh => by rw [decide_eq_false hh] at g11; cases g11
          exact ⟨_, lookup_hit, rfl, es8, cl8, N8, h9, ok8, fun c d => by rw [selL_step hr, if_pos hsel, List.append_nil]; exact r8 c d⟩
      · simp only [ev0, ev, evV, List.cons_append, List.nil_append, List.getD_cons_zero, List.getD_cons_succ, List.map_cons, List.map_nil, iOf, bOf, sOf, pOf, slLen, slBase, cmpI, arI, Value.ite_bool, int_beq, int_bne, ite_band, ite_bor, txt_neM] at g10
        have hmv : x.op ≠ moveB := by simpa using g10
        refine ⟨_, lookup_hit, ?_, h8⟩
        simp only [ev0, ev, evV, List.cons_append, List.nil_append, List.getD_cons_zero, List.getD_cons_succ, List.map_cons, List.map_nil, iOf, bOf, sOf, pOf, slLen, slBase, cmpI, arI, Value.ite_bool, int_beq, int_bne, ite_band, ite_bor]
        rw [decide_eq_false (fun hh => hmv hh.1)]; rfl
      · simp only [ev0, ev, evV, List.cons_append, List.nil_append, List.getD_cons_zero, List.getD_cons_succ, List.map_cons, List.map_nil, iOf, bOf, sOf, pOf, slLen, slBase, cmpI, arI, Value.ite_bool, int_beq, int_bne, ite_band, ite_bor, txt_neM] at g10
        have hmv : x.op = moveB := by simpa using g10
        refine den_gives [.bool (decide (r ∈ x.args))] cb_slices_Contains___int_int_ (Contains_gives x.args r _ K8 hyaK hargs) rfl pendNil fun K9 l9 => ?_
        refine ⟨_, lookup_hit, ?_, h8.le l9⟩
        simp only [ev0, ev, evV, List.cons_append, List.nil_append, List.getD_cons_zero, List.getD_cons_succ, List.map_cons, List.map_nil, iOf, bOf, sOf, pOf, slLen, slBase, cmpI, arI, Value.ite_bool, int_beq, int_bne, ite_band, ite_bor]
        by_cases h : r ∈ x.args
        · rw [decide_eq_true h, decide_eq_true (⟨hmv, h⟩ : x.op = moveB ∧ r ∈ x.args)]
        · rw [decide_eq_false h, decide_eq_false (fun hh => h hh.2)]
    · simp only [ev0, ev, evV, List.cons_append, List.nil_append, List.getD_cons_zero, List.getD_cons_succ, List.map_cons, List.map_nil, iOf, bOf, sOf, pOf, slLen, slBase, cmpI, arI, Value.ite_bool, int_beq, int_bne, ite_band, ite_bor, decide_eq_false_iff_not] at g9
      rw [List.take_of_length_le (by omega)] at r8
      refine ⟨_, lookup_skip rfl lookup_hit, rfl, es8, cl8, N8, h8, ok8, fun c d => ?_⟩
      rw [r8, insFills_step hx, insFill, if_neg hop]
      constructor
      · rintro ⟨h1, (h | ⟨f, hf, hs⟩) | h⟩
        · exact ⟨h1, .inl h⟩
        · exact ⟨h1, .inr ⟨f, List.mem_append_left _ hf, hs⟩⟩
        · exact ⟨h1, .inr ⟨_, List.mem_append_right _ (List.mem_singleton.2 rfl), h⟩⟩
      · rintro ⟨h1, h | ⟨f, hf, hs⟩⟩
        · exact ⟨h1, .inl (.inl h)⟩
        · rcases List.mem_append.1 hf with hf | hf
          · exact ⟨h1, .inl (.inr ⟨f, hf, hs⟩)⟩
          · rw [List.mem_singleton.1 hf] at hs
            exact ⟨h1, .inr hs⟩
  simp only [ev0, ev, evV, List.cons_append, List.nil_append, List.getD_cons_zero, List.getD_cons_succ, List.map_cons, List.map_nil, iOf, bOf, sOf, pOf, slLen, slBase, cmpI, arI, Value.ite_bool, int_beq, int_bne, ite_band, ite_bor, decide_eq_false_iff_not] at g7
  have : i = b.ins.length := by omega
  subst this
  refine ⟨fun g8 => ?_, fun g8 => ?_⟩
  · simp only [ev0, ev, evV, List.cons_append, List.nil_append, List.getD_cons_zero, List.getD_cons_succ, List.map_cons, List.map_nil, iOf, bOf, sOf, pOf, slLen, slBase, cmpI, arI, Value.ite_bool, int_beq, int_bne, ite_band, ite_bor] at g8
    have hc : b.e.calls = true := by
      unfold EndX.calls
      simp only [Bool.or_eq_true, decide_eq_true_eq] at g8
      exact decide_eq_true g8
    refine den_call cb_live_Across (h7.pure (R := fun x S' => ∃ v, x = .returned v ∧ SlR S' (acrossL p (k : Int)) v) (LAcross_tri p (.slice b0 p.blocks.length c0) (k : Int) S6 (hbv2.le (PH.le_trans le5 l6)) hp hE)) ?_
    rintro x K8 ⟨S8, l8, h8, av8, rfl, hav8⟩
    obtain ⟨b8, c8, rfl⟩ := hav8.sl
    have hal := acrossL_len hp (k : Int)
    refine ⟨_, [.slice b8 (acrossL p (k : Int)).length c8], rfl, rfl, rfl, pendNil, ?_⟩
    simp only [List.cons_append, List.nil_append]
    refine ⟨fun n vs K => ∃ (j : Nat) (es : Array MapEntry) (cl : Nat) (N : List (Int × GN)), vs = [nI j] ∧ j + n = (acrossL p (k : Int)).length ∧ Held S8 K (grB gr es cl ++ grI N) ∧ GrOk es cl N ∧ ∀ c d, relN N c d ↔ c ≠ d ∧ ((((c ∈ liveL p 0 0 ∧ d ∈ liveL p 0 0) ∨ ∃ f ∈ fillsTo p k, f.sym c d) ∨ ∃ f ∈ insFills p k b b.ins.length, f.sym c d) ∨ symL b.e.to ((acrossL p (k : Int)).take j) c d),
      ⟨(acrossL p (k : Int)).length, 0, es7, cl7, N7, rfl, by omega, h8, ok7, fun c d => by rw [r7]; simp [symL]⟩, ?_⟩
    rintro n9 vs K9 _ ⟨j, es9, cl9, N9, rfl, hjn, h9, ok9, r9⟩
    simp only [List.cons_append, List.nil_append]
    refine ⟨fun g9 => ?_, fun g9 => ?_⟩
    · simp only [ev0, ev, evV, List.cons_append, List.nil_append, List.getD_cons_zero, List.getD_cons_succ, List.map_cons, List.map_nil, iOf, bOf, sOf, pOf, slLen, slBase, cmpI, arI, Value.ite_bool, int_beq, int_bne, ite_band, ite_bor, decide_eq_true_eq] at g9
      obtain ⟨r, hr⟩ : ∃ r, (acrossL p (k : Int))[j]? = some r := ⟨_, List.getElem?_eq_getElem (show j < (acrossL p (k : Int)).length by omega)⟩
      obtain ⟨w1, _, wcs, w2, w3⟩ := (hav8.le h9.sh).get hr
      obtain ⟨rfl, _⟩ := csIK w2
      refine ⟨fun _ => ?_, [.int .i64 r], rfl, ?_, ?_⟩
      · simp only [Chk.holds, ev0, ev, evV, List.cons_append, List.nil_append, List.getD_cons_zero, List.getD_cons_succ, List.map_cons, List.map_nil, iOf, bOf, sOf, pOf, slLen, slBase, cmpI, arI, Value.ite_bool, int_beq, int_bne, ite_band, ite_bor]; exact ⟨w1, by omega, by omega⟩
      · simp only [ev0, ev, evV, List.cons_append, List.nil_append, List.getD_cons_zero, List.getD_cons_succ, List.map_cons, List.map_nil, iOf, bOf, sOf, pOf, slLen, slBase, cmpI, arI, Value.ite_bool, int_beq, int_bne, ite_band, ite_bor]; exact w3
      refine den_call cb_color_graph_int___join (join_tri gr es9 cl9 N9 b.e.to r S8 K9 h9 ok9) ?_
      rintro e K10 ⟨es10, cl10, N10, rfl, h10, ok10, r10⟩
      refine ⟨_, [], rfl, rfl, rfl, pendNil, _, lookup_hit, n9 - 1, by omega, j + 1, es10, cl10, N10, ?_, by omega, h10, ok10, rel_join r10 r9 fun c d => ?_⟩
      · simp only [ev0, ev, evV, List.cons_append, List.nil_append, List.getD_cons_zero, List.getD_cons_succ, List.map_cons, List.map_nil, iOf, bOf, sOf, pOf, slLen, slBase, cmpI, arI, Value.ite_bool, int_beq, int_bne, ite_band, ite_bor]; rw [w64 (by omega) (by omega)]; rfl
      · rw [symL_step hr]; simp only [or_assoc]
    · simp only [ev0, ev, evV, List.cons_append, List.nil_append, List.getD_cons_zero, List.getD_cons_succ, List.map_cons, List.map_nil, iOf, bOf, sOf, pOf, slLen, slBase, cmpI, arI, Value.ite_bool, int_beq, int_bne, ite_band, ite_bor, decide_eq_false_iff_not] at g9
      rw [List.take_of_length_le (by omega)] at r9
      refine ⟨_, lookup_skip rfl (lookup_skip rfl lookup_hit), rfl, es9, cl9, N9, S8, PH.le_trans l6 l8, h9, ok9, fun c d => ?_⟩
      rw [r9, fillsTo_step hb, blkFill, if_pos hc]
      constructor
      · rintro ⟨h1, ((h | ⟨f, hf, hs⟩) | ⟨f, hf, hs⟩) | h⟩
        · exact ⟨h1, .inl h⟩
        · exact ⟨h1, .inr ⟨f, List.mem_append_left _ hf, hs⟩⟩
        · exact ⟨h1, .inr ⟨f, List.mem_append_right _ (List.mem_append_left _ hf), hs⟩⟩
        · exact ⟨h1, .inr ⟨_, List.mem_append_right _ (List.mem_append_right _ (List.mem_singleton.2 rfl)), h⟩⟩
      · rintro ⟨h1, h | ⟨f, hf, hs⟩⟩
        · exact ⟨h1, .inl (.inl (.inl h))⟩
        · rcases List.mem_append.1 hf with hf | hf
          · exact ⟨h1, .inl (.inl (.inr ⟨f, hf, hs⟩))⟩
          · rcases List.mem_append.1 hf with hf | hf
            · exact ⟨h1, .inl (.inr ⟨f, hf, hs⟩)⟩
            · rw [List.mem_singleton.1 hf] at hs
              exact ⟨h1, .inr hs⟩
  · simp only [ev0, ev, evV, List.cons_append, List.nil_append, List.getD_cons_zero, List.getD_cons_succ, List.map_cons, List.map_nil, iOf, bOf, sOf, pOf, slLen, slBase, cmpI, arI, Value.ite_bool, int_beq, int_bne, ite_band, ite_bor] at g8
    have hc : ¬ b.e.calls = true := by
      unfold EndX.calls
      simp only [Bool.or_eq_false_iff, decide_eq_false_iff_not] at g8
      simp only [decide_eq_true_eq]
      omega
    refine ⟨_, lookup_skip rfl lookup_hit, rfl, es7, cl7, N7, S6, l6, h7, ok7, fun c d => ?_⟩
    rw [r7, fillsTo_step hb, blkFill, if_neg hc, List.append_nil]
    constructor
    · rintro ⟨h1, (h | ⟨f, hf, hs⟩) | ⟨f, hf, hs⟩⟩
      · exact ⟨h1, .inl h⟩
      · exact ⟨h1, .inr ⟨f, List.mem_append_left _ hf, hs⟩⟩
      · exact ⟨h1, .inr ⟨f, List.mem_append_right _ hf, hs⟩⟩
    · rintro ⟨h1, h | ⟨f, hf, hs⟩⟩
      · exact ⟨h1, .inl (.inl h)⟩
      · rcases List.mem_append.1 hf with hf | hf
        · exact ⟨h1, .inl (.inr ⟨f, hf, hs⟩)⟩
        · exact ⟨h1, .inr ⟨f, hf, hs⟩⟩
end Go.Proofs.Ytlbbmcpppfiplaa.Vc
/-
  A MAP RANGED OVER, in one rule; maps that are nil. No program in sight.
-/
namespace Go.Proofs.Ytlbbmcpppfiplaa.Vc
open Go

/-- the value is this map, which stands; or nil -/
def MapS (S : PH) (v : Value) (m : List (Int × Value)) : Prop := (∃ r es clock, v = .map (some r) ∧ S r = some (.map es clock) ∧ EntsR (α := Int) es.toList clock m) ∨ (v = .map none ∧ m = [])
theorem MapS.le {S S' : PH} {v : Value} {m : List (Int × Value)} (h : MapS S v m) (hl : PH.le S S') : MapS S' v m :=
  h.imp (fun ⟨r, es, clock, h1, h2, h3⟩ => ⟨r, es, clock, h1, hl _ _ h2, h3⟩) id
section
variable {P : Program} {X : List PanicEntry → PH → Prop} {β : Type} {E : List Value} {L : LK} {K : β → List Value → PH → LK → Prop} {H S : PH}
theorem den_lenS {t kt et ty : TypeId} {x : Operand} {ts : Array TypeId} {args : List (Nat × VE)} {k : Fm β} {m : List (Int × Value)} {v : Value} (hts : ts[0]? = some t) (ht : P.underlying t = some (.map kt et))
    (hx : argEv E args x = v) (hS : PH.le S H) (h : MapS S v m) (hb : (m.length : Int) ≤ 9223372036854775807)
    (hk : den P X k (E ++ [.int .i64 m.length]) H L K) : den P X (.sem (.call ⟨.builtin .len, #[x], ts⟩) ty args (.sc (.int .i64)) [] k) E H L K := by
  rcases h with ⟨r, es, clock, h1, h2, h3⟩ | ⟨h1, h2⟩
  · exact den_mapLen (α := Int) (m := m) hts ht hx ⟨r, es, clock, h1, hS _ _ h2, h3⟩ hb pendNil hk
  · subst h2
    show wpS P (execOp (argEv E args) (bare _ ty)) _ _ H
    rw [exec_len, hx, h1]
    unfold Builtin.len_
    simp only [hts, List.getElem?_toArray, List.getElem?_cons_zero, wpS_bind', wpS_underlying ht]
    exact ⟨[.int .i64 0], rfl, rfl, pendNil, hk⟩
theorem getD_mid (E F : List Value) (u : Value) : (E ++ [u] ++ F).getD E.length (.bool false) = u := by
  rw [List.getD_eq_getElem?_getD, List.append_assoc, List.getElem?_append_right (Nat.le_refl _)]; simp
theorem argEv_mid (E F : List Value) (u : Value) (t : Nat) : argEv (E ++ [u] ++ F) [(t, .sc (.atom E.length))] (.tmp t) = u := by
  have h1 : ([(t, VE.sc (.atom E.length))] : List (Nat × VE)).lookup t = some (.sc (.atom E.length)) := by simp [List.lookup]
  show (match ([(t, VE.sc (.atom E.length))] : List (Nat × VE)).lookup t with | some v => evV (E ++ [u] ++ F) (fun _ => 0) v | none => undef) = u
  rw [h1]
  exact getD_mid E F u
/-- A MAP RANGED OVER -/
theorem den_rangeS {T kt et ty ty2 ty3 : TypeId} {x : Operand} {args : List (Nat × VE)} {id jid t : Nat} {tags : List Tag} {init : List SV} {t2 : Tag} {body after : Fm β} {m : List (Int × Value)} {v : Value} {q mm : Nat} (hq : q = E.length) (hmm : mm = E.length + 1 + tags.length) (ht : P.underlying T = some (.map kt et))
    (hx : argEv E args x = v) (hS : PH.le S H) (h : MapS S v m) (htag : ∀ y ∈ m, t2.ok y.2 = true) (hjid : (jid == id) = false) (Inv : List Int → List Value → PH → Nat → Obj → Prop)
    (h0 : ∀ i o, H i = none → Inv [] (init.map (ev0 (E ++ [Value.pointer (some ⟨i, 0, none⟩)]))) (H.upd i o) i o)
    (hcell : ∀ done vs H' i o, Inv done vs H' i o → H' i = some o ∧ PH.le S H') (hput : ∀ done vs H' i o o', Inv done vs H' i o → Inv done vs (H'.upd i o') i o')
    (hstep : ∀ done y w vs H' i o J, (y, w) ∈ m → y ∉ done → tagsOk tags vs = true → Inv done vs H' i o → (∀ vs' H'', Inv (y :: done) vs' H'' i o → J vs' H'') →
      den P X body (E ++ [Value.pointer (some ⟨i, 0, none⟩)] ++ vs ++ [.bool true] ++ [.int .i64 y, w]) H' ((id, J) :: L) K)
    (hend : ∀ done vs H' i o J, (∀ y, y ∈ m.map (·.1) ↔ y ∈ done) → done.Nodup → tagsOk tags vs = true → Inv done vs H' i o → den P X after (E ++ [Value.pointer (some ⟨i, 0, none⟩)] ++ vs ++ [.bool false]) H' ((id, J) :: L) K) :
    den P X (.sem (.range T x) ty args (.sc .ptr) [] (.loop id tags init (.join jid [.bool] (.ite (.atom mm) (.sem (.entry (.tmp t)) ty2 [(t, .sc (.atom q))] (.tu [(false, [.int .i64]), (false, [t2])]) [] body) after)
      (.alt (.next (.tmp t) false) ty3 [(t, .sc (.atom q))] (.tu [(false, [.bool])]) (.tu [(false, [.bool]), (false, [.int .i64]), (false, [t2])]) (.next jid [.atom mm]) (.next jid [.atom mm]))))) E H L K := by
  subst hq hmm
  have hat : ∀ (i : Nat) (vs F : List Value) (u : Value), tagsOk tags vs = true → ev0 (E ++ [Value.pointer (some ⟨i, 0, none⟩)] ++ vs ++ (u :: F)) (.atom (E.length + 1 + tags.length)) = u := by
    intro i vs F u hvs
    have hl := tagsOk_length hvs
    show (E ++ [Value.pointer (some ⟨i, 0, none⟩)] ++ vs ++ (u :: F)).getD _ _ = u
    rw [List.getD_eq_getElem?_getD, List.getElem?_append_right (by simp; omega)]
    have : E.length + 1 + tags.length - (E ++ [Value.pointer (some ⟨i, 0, none⟩)] ++ vs).length = 0 := by simp; omega
    rw [this]; rfl
  rcases h with ⟨r, es, clock, rfl, hr, hents⟩ | ⟨rfl, rfl⟩
  · refine den_range (r := r) (es := es) (clock := clock) ht hx (hS _ _ hr) (fun _ _ => pendNil) fun i hi => ?_
    have hinit := h0 i (.mapIter (some r) clock #[] clock) hi
    have hl0 : leftM es #[] = es.toList := by unfold leftM; simp
    have hkeys : es.toList.map (·.key) = m.map fun x => Value.int .i64 x.1 := by
      have := congrArg (List.map Prod.fst) hents.ents
      simp only [List.map_map, Function.comp_def] at this
      exact this
    have hent : ∀ e ∈ es.toList, ∃ y w, (y, w) ∈ m ∧ e.key = .int .i64 y ∧ e.val = w := by
      intro e he
      have h1 : (e.key, e.val) ∈ es.toList.map (fun e => (e.key, e.val)) := List.mem_map.2 ⟨e, he, rfl⟩
      rw [hents.ents] at h1
      obtain ⟨z, hz, hze⟩ := List.mem_map.1 h1
      simp only [Prod.mk.injEq] at hze
      exact ⟨z.1, z.2, hz, hze.1.symm, hze.2.symm⟩
    have hhas : ∀ y ∈ m.map (·.1), ∃ e ∈ es.toList, e.key = .int .i64 y := by
      intro y hy
      obtain ⟨z, hz, rfl⟩ := List.mem_map.1 hy
      have h1 : (Value.int .i64 z.1) ∈ es.toList.map (·.key) := by rw [hkeys]; exact List.mem_map.2 ⟨z, hz, rfl⟩
      obtain ⟨e, he, hee⟩ := List.mem_map.1 h1
      exact ⟨e, he, hee⟩
    have huniq : ∀ e ∈ es.toList, ∀ e' ∈ es.toList, e.key = e'.key → e = e' := by
      intro e he e' he' hk
      obtain ⟨a, ha⟩ := List.getElem?_of_mem he
      obtain ⟨b, hb⟩ := List.getElem?_of_mem he'
      obtain ⟨y, w, hyw, hky, _⟩ := hent e he
      have hta : (m.map (·.1))[a]? = some y := by
        have := congrArg (fun l => l[a]?) hkeys
        simp only [List.getElem?_map, ha, Option.map_some, hky] at this
        rw [List.getElem?_map]
        cases hx : m[a]? with
        | none => rw [hx] at this; cases this
        | some z => rw [hx] at this; simp at this; rw [this]; rfl
      have htb : (m.map (·.1))[b]? = some y := by
        have := congrArg (fun l => l[b]?) hkeys
        simp only [List.getElem?_map, hb, Option.map_some, ← hk, hky] at this
        rw [List.getElem?_map]
        cases hx : m[b]? with
        | none => rw [hx] at this; cases this
        | some z => rw [hx] at this; simp at this; rw [this]; rfl
      have hab := (List.getElem?_inj (List.getElem?_eq_some_iff.1 hta).1 hents.keys).1 (hta.trans htb.symm)
      subst hab
      rw [ha] at hb; exact Option.some.inj hb
    refine ⟨fun n vs H' => ∃ (seen : Array Nat) (done : List Int), n = (leftM es seen).length ∧ done.Nodup ∧ (∀ y, y ∈ done ↔ y ∈ m.map (·.1) ∧ ∀ e ∈ leftM es seen, e.key ≠ .int .i64 y) ∧ Inv done vs H' i (.mapIter (some r) clock seen clock), ⟨_, #[], [], rfl, List.nodup_nil, fun y => ?_, hinit⟩, ?_⟩
    · rw [hl0]
      simp only [List.not_mem_nil, false_iff, not_and]
      intro hy hno
      obtain ⟨e, he, hk⟩ := hhas y hy
      exact hno e he hk
    rintro n vs H' hvs ⟨seen, done, rfl, hnd, hdone, hinv⟩
    obtain ⟨hc, hSH⟩ := hcell _ _ _ _ _ hinv
    refine ⟨fun us H'' => ∃ b : Bool, us = [.bool b] ∧ ((b = false ∧ leftM es seen = [] ∧ H'' = H') ∨ (b = true ∧ ∃ e ∈ leftM es seen, Inv done vs H'' i (.mapIter (some r) clock (seen.push e.born) clock))), ?_, ?_⟩
    · rintro us H'' _ ⟨b, rfl, hcase⟩
      refine ⟨fun g => ?_, fun g => ?_⟩
      · rw [hat i vs [] _ hvs] at g
        have hb : b = true := g
        subst hb
        rcases hcase with ⟨h, _⟩ | ⟨_, e, he, h2⟩
        · cases h
        have hee : e ∈ es.toList := (List.mem_filter.1 he).1
        obtain ⟨y, w, hyw, hek, hev⟩ := hent e hee
        obtain ⟨p1, p2⟩ := left_push hents he
        obtain ⟨hc2, hS2⟩ := hcell _ _ _ _ _ h2
        refine den_entry (i := i) (r := r) (es := es) (clock := clock) (seen := seen) (m := m) (e := e) ?_ hc2 (hS2 _ _ hr) hents hee (by rw [hek, hev]; exact ⟨rfl, htag _ hyw⟩) ?_
        · rw [List.append_assoc, argEv_mid]
        rw [hek, hev]
        have hynd : y ∉ done := fun hy => ((hdone y).1 hy).2 e he hek
        refine hstep done y w vs H'' i _ _ hyw hynd hvs h2 fun vs' H3 h3 => ⟨_, p1, seen.push e.born, y :: done, rfl, List.nodup_cons.2 ⟨hynd, hnd⟩, fun z => ?_, h3⟩
        rw [List.mem_cons, hdone]
        constructor
        · rintro (rfl | ⟨h4, h5⟩)
          · refine ⟨List.mem_map.2 ⟨_, hyw, rfl⟩, fun e' he' hk' => ?_⟩
            have he2 := (p2 e').2 (.inr he')
            have := huniq e' (List.mem_filter.1 he2).1 e hee (hk'.trans hek.symm)
            subst this
            have hno := (List.mem_filter.1 he').2
            simp at hno
          · exact ⟨h4, fun e' he' => h5 e' ((p2 e').2 (.inr he'))⟩
        · rintro ⟨h4, h5⟩
          by_cases hz : z = y
          · exact .inl hz
          · refine .inr ⟨h4, fun e' he' hk' => ?_⟩
            rcases (p2 e').1 he' with rfl | h6
            · rw [hek] at hk'; cases hk'; exact hz rfl
            · exact h5 e' h6 hk'
      · rw [hat i vs [] _ hvs] at g
        have hb : b = false := g
        subst hb
        rcases hcase with ⟨_, hnil, rfl⟩ | ⟨h, _⟩
        · refine hend done vs H'' i _ _ (fun y => ?_) hnd hvs hinv
          rw [hdone, hnil]; simp
        · cases h
    · refine den_next (i := i) (r := r) (es := es) (clock := clock) (seen := seen) (m := m) ?_ hc (hSH _ _ hr) hents (fun e he => ?_) (fun hnil => ?_) fun e he => ?_
      · rw [argEv_mid]
      · obtain ⟨y, w, hyw, hek, hev⟩ := hent e he
        rw [hek, hev]; exact ⟨rfl, htag _ hyw⟩
      · refine ⟨_, lookup_hit, false, ?_, .inl ⟨rfl, hnil, rfl⟩⟩
        rw [List.map_cons, List.map_nil, hat i vs [] _ hvs]
      · refine ⟨_, lookup_hit, true, ?_, .inr ⟨rfl, e, he, hput _ _ _ _ _ _ hinv⟩⟩
        rw [List.map_cons, List.map_nil, hat i vs _ _ hvs]
  · show wpS P (execOp (argEv E args) (bare _ ty)) _ _ H
    rw [exec_range, hx]
    unfold Instr.range
    simp only [wpS_bind', wpS_underlying ht, wpS_purec]
    intro i hi
    have hinit := h0 i (.mapIter none 0 #[] 0) hi
    refine ⟨[.pointer (some ⟨i, 0, none⟩)], rfl, rfl, pendNil, ?_⟩
    refine ⟨fun n vs H' => Inv [] vs H' i (.mapIter none 0 #[] 0), ⟨0, hinit⟩, ?_⟩
    intro n vs H' hvs hinv
    obtain ⟨hc, hSH⟩ := hcell _ _ _ _ _ hinv
    refine ⟨fun us H'' => us = [.bool false] ∧ H'' = H', ?_, ?_⟩
    · rintro us H'' _ ⟨rfl, rfl⟩
      refine ⟨fun g => ?_, fun g => ?_⟩
      · rw [hat i vs [] _ hvs] at g; cases g
      · exact hend [] vs H'' i _ _ (fun y => by simp) List.nodup_nil hvs hinv
    · show wpS P (execOp (argEv _ _) (bare _ ty3)) _ _ H'
      rw [exec_next, argEv_mid]
      unfold Instr.next
      simp only [wpS_bind', wpS_purec]
      refine ⟨_, hc, rfl, ?_⟩
      refine .inl ⟨[.bool false], rfl, rfl, _, lookup_hit, ?_, rfl⟩
      rw [List.map_cons, List.map_nil, hat i vs [] _ hvs]
end
end Go.Proofs.Ytlbbmcpppfiplaa.Vc
/-
  COLOUR: the graph let stand; rows turned round; a row of one number.
-/
namespace Go.Proofs.Ytlbbmcpppfiplaa.Vc
open Go

/-! ### the graph, let stand -/
theorem freezeBlks : ∀ (L : List (Nat × Obj)) {S H : PH} {I : List Itm}, Held S H ((L.map fun x => Itm.blk x.1 x.2) ++ I) → ∃ S', PH.le S S' ∧ Held S' H I ∧ ∀ x ∈ L, S' x.1 = some x.2
  | [], S, H, I, h => ⟨S, PH.le_refl _, h, fun x hx => by cases hx⟩
  | a :: L, S, H, I, h => by
    have h' : Held S H (.blk a.1 a.2 :: ((L.map fun x => Itm.blk x.1 x.2) ++ I)) := h
    obtain ⟨l1, h1⟩ := h'.freezeB
    obtain ⟨S2, l2, h2, h3⟩ := freezeBlks L h1
    refine ⟨S2, PH.le_trans l1 l2, h2, fun x hx => ?_⟩
    rcases List.mem_cons.1 hx with rfl | hx
    · exact l2 _ _ PH.upd_same
    · exact h3 x hx
structure GraphR (S : PH) (v : Value) (N : List (Int × GN)) : Prop where
  at_ : ∃ gr es cl, v = .map (some gr) ∧ S gr = some (.map es cl) ∧ GrOk es cl N
  in_ : ∀ x ∈ N, S x.2.ref = some (.map x.2.es x.2.cl)
theorem GraphR.le {S S' : PH} {v : Value} {N : List (Int × GN)} (h : GraphR S v N) (hl : PH.le S S') : GraphR S' v N := by
  obtain ⟨gr, es, cl, h1, h2, h3⟩ := h.at_
  exact ⟨⟨gr, es, cl, h1, hl _ _ h2, h3⟩, fun x hx => hl _ _ (h.in_ x hx)⟩
theorem freezeGraph {S H : PH} {gr : Nat} {es : Array MapEntry} {cl : Nat} {N : List (Int × GN)} (h : Held S H (grB gr es cl ++ grI N)) (ok : GrOk es cl N) : ∃ S', PH.le S S' ∧ PH.le S' H ∧ GraphR S' (.map (some gr)) N := by
  have e : grB gr es cl ++ grI N = (((gr, Obj.map es cl) :: N.map fun x => (x.2.ref, Obj.map x.2.es x.2.cl)).map fun x => Itm.blk x.1 x.2) ++ [] := by
    simp [grB, grI, Function.comp_def]
  rw [e] at h
  obtain ⟨S', l1, h1, h2⟩ := freezeBlks _ h
  exact ⟨S', l1, h1.sh, ⟨gr, es, cl, rfl, h2 _ (List.mem_cons_self ..), ok⟩, fun x hx => h2 (x.2.ref, _) (List.mem_cons_of_mem _ (List.mem_map.2 ⟨x, hx, rfl⟩))⟩
/-- who meets a register -/
def adjN (N : List (Int × GN)) (c : Int) : List Int := match N.find? fun x => decide (x.1 = c) with
  | some x => x.2.s
  | none => []
theorem adj_get {N : List (Int × GN)} (hn : (N.map (·.1)).Nodup) (c : Int) : (∃ (j : Nat) (x : Int × GN), N[j]? = some x ∧ x.1 = c ∧ adjN N c = x.2.s) ∨ ((∀ x ∈ N, x.1 ≠ c) ∧ adjN N c = []) := by
  unfold adjN
  cases hf : N.find? fun x => decide (x.1 = c) with
  | none =>
    rw [List.find?_eq_none] at hf
    exact .inr ⟨fun x hx e => hf x hx (decide_eq_true e), rfl⟩
  | some x =>
    obtain ⟨j, hj⟩ := List.getElem?_of_mem (List.mem_of_find?_eq_some hf)
    have hd := List.find?_some hf
    exact .inl ⟨j, x, hj, by simpa using hd, rfl⟩
theorem adj_mem {N : List (Int × GN)} (hn : (N.map (·.1)).Nodup) (c d : Int) : d ∈ adjN N c ↔ relN N c d := by
  rcases adj_get hn c with ⟨j, x, hj, hx, he⟩ | ⟨hno, he⟩
  · rw [he]
    constructor
    · exact fun h => ⟨x, List.mem_of_getElem? hj, hx, h⟩
    · rintro ⟨y, hy, h1, h2⟩
      obtain ⟨t, ht⟩ := List.getElem?_of_mem hy
      have h3 : (N.map (·.1))[j]? = some c := by rw [List.getElem?_map, hj, ← hx]; rfl
      have h4 : (N.map (·.1))[t]? = some c := by rw [List.getElem?_map, ht, ← h1]; rfl
      have := (List.getElem?_inj (List.getElem?_eq_some_iff.1 h3).1 hn).1 (h3.trans h4.symm)
      subst this
      rw [hj] at ht; cases ht; exact h2
  · rw [he]
    constructor
    · intro h; cases h
    · rintro ⟨y, hy, h1, _⟩; exact absurd h1 (hno y hy)
theorem GraphR.keys {S : PH} {v : Value} {N : List (Int × GN)} (h : GraphR S v N) : (N.map (·.1)).Nodup := by
  obtain ⟨gr, es, cl, _, _, h3⟩ := h.at_; exact outM_keys h3
theorem GraphR.adj_nodup {S : PH} {v : Value} {N : List (Int × GN)} (h : GraphR S v N) (c : Int) : (adjN N c).Nodup := by
  obtain ⟨gr, es, cl, _, _, h3⟩ := h.at_
  rcases adj_get h.keys c with ⟨j, x, hj, hx, he⟩ | ⟨hno, he⟩
  · rw [he]; exact (h3.inner j x hj).nodup
  · rw [he]; exact List.nodup_nil
/-- what stands at a register in the graph -/
theorem GraphR.look {S : PH} {v : Value} {N : List (Int × GN)} (h : GraphR S v N) (c : Int) : MapR S v (outM N) ∧ ∃ w, (getM (outM N) c).getD (.map none) = w ∧ Tag.ok .map w = true ∧ MapS S w (encS (adjN N c)) := by
  obtain ⟨gr, es, cl, rfl, h2, h3⟩ := h.at_
  refine ⟨⟨gr, es, cl, rfl, h2, h3.outer⟩, ?_⟩
  rcases adj_get h.keys c with ⟨j, x, hj, hx, he⟩ | ⟨hno, he⟩
  · have := getM_out h.keys hj
    rw [hx] at this
    rw [this, he]
    exact ⟨_, rfl, rfl, .inl ⟨x.2.ref, x.2.es, x.2.cl, rfl, h.in_ x (List.mem_of_getElem? hj), h3.inner j x hj⟩⟩
  · rw [getM_outNone hno, he]
    exact ⟨_, rfl, rfl, .inr ⟨rfl, rfl⟩⟩
/-! ### a row of numbers turned round -/
set_option maxHeartbeats 1000000 in
theorem ReverseI_tri (l : List Int) (v : Value) (S K : PH) (I : List Itm) (h : Held S K (orow 3 l v :: I)) (hl : l.length ≤ 4000000) :
    Tri Try.prog n_slices_Reverse___int_int_ #[v] K fun x K' => x = .returned (.tuple #[]) ∧ Held S K' (orow 3 l.reverse v :: I) := by
  obtain ⟨b, c, rfl⟩ := (h.row (List.mem_cons_self ..)).sl
  refine tri_slices_Reverse___int_int_ [.slice b l.length c] (by kernel_rfl) (by kernel_rfl) ?_
  refine ⟨fun n vs K' => ∃ (i : Nat) (m : List Int), vs = [nI i, .int .i64 ((l.length : Int) - 1 - i)] ∧ n = l.length - i ∧ i ≤ l.length ∧ RevAt l m i ∧ Held S K' (orow 3 m (.slice b l.length c) :: I), ⟨_, 0, l, ?_, rfl, by omega, RevAt.first l, h⟩, ?_⟩
  · simp only [ev0, ev, evV, List.cons_append, List.nil_append, List.getD_cons_zero, List.getD_cons_succ, List.map_cons, List.map_nil, iOf, bOf, sOf, pOf, slLen, slBase, cmpI, arI, Value.ite_bool, int_beq, int_bne, ite_band, ite_bor]
    rw [w64 (by omega) (by omega)]
    simp
  rintro n vs K1 _ ⟨i, m, rfl, rfl, hil, hr, h1⟩
  refine ⟨fun g => ?_, fun g => ?_⟩
  · simp only [ev0, ev, evV, List.cons_append, List.nil_append, List.getD_cons_zero, List.getD_cons_succ, List.map_cons, List.map_nil, iOf, bOf, sOf, pOf, slLen, slBase, cmpI, arI, Value.ite_bool, int_beq, int_bne, ite_band, ite_bor, decide_eq_true_eq] at g
    have hi2 : 2 * i + 1 < l.length := by omega
    obtain ⟨k, hk⟩ : ∃ k : Nat, (l.length : Int) - 1 - i = (k : Int) := ⟨l.length - 1 - i, by omega⟩
    have hk' : k = l.length - 1 - i := by omega
    rw [hk]
    obtain ⟨a, ha⟩ : ∃ a, m[i]? = some a := ⟨_, List.getElem?_eq_getElem (by rw [hr.len]; omega)⟩
    obtain ⟨z, hz⟩ : ∃ z, m[k]? = some z := ⟨_, List.getElem?_eq_getElem (by rw [hr.len]; omega)⟩
    obtain ⟨a1, _, acs, a2, a3⟩ := (h1.row (List.mem_cons_self ..)).get ha
    obtain ⟨z1, _, zcs, z2, z3⟩ := (h1.row (List.mem_cons_self ..)).get hz
    obtain ⟨rfl, a4⟩ := csIK a2
    obtain ⟨rfl, z4⟩ := csIK z2
    refine ⟨fun _ => ?_, [.int .i64 z], rfl, ?_, fun _ => ?_, [.int .i64 a], rfl, ?_, ?_⟩
    · simp only [Chk.holds, ev0, ev, evV, List.cons_append, List.nil_append, List.getD_cons_zero, List.getD_cons_succ, List.map_cons, List.map_nil, iOf, bOf, sOf, pOf, slLen, slBase, cmpI, arI, Value.ite_bool, int_beq, int_bne, ite_band, ite_bor]; exact ⟨z1, by omega, by omega⟩
    · simp only [ev0, ev, evV, List.cons_append, List.nil_append, List.getD_cons_zero, List.getD_cons_succ, List.map_cons, List.map_nil, iOf, bOf, sOf, pOf, slLen, slBase, cmpI, arI, Value.ite_bool, int_beq, int_bne, ite_band, ite_bor]; exact z3
    · simp only [Chk.holds, ev0, ev, evV, List.cons_append, List.nil_append, List.getD_cons_zero, List.getD_cons_succ, List.map_cons, List.map_nil, iOf, bOf, sOf, pOf, slLen, slBase, cmpI, arI, Value.ite_bool, int_beq, int_bne, ite_band, ite_bor]; exact ⟨a1, by omega, by omega⟩
    · simp only [ev0, ev, evV, List.cons_append, List.nil_append, List.getD_cons_zero, List.getD_cons_succ, List.map_cons, List.map_nil, iOf, bOf, sOf, pOf, slLen, slBase, cmpI, arI, Value.ite_bool, int_beq, int_bne, ite_band, ite_bor]; exact a3
    refine den_hPutZ (i := i) (a := a) (a' := z) (us := [.int .i64 z]) ?_ h1 ha rfl ?_ (by simp [oneC]) (csIK_mk z4) fun K2 h2 => ?_
    · simp only [ev0, ev, evV, List.cons_append, List.nil_append, List.getD_cons_zero, List.getD_cons_succ, List.map_cons, List.map_nil, iOf, bOf, sOf, pOf, slLen, slBase, cmpI, arI, Value.ite_bool, int_beq, int_bne, ite_band, ite_bor]; rfl
    · simp only [ev0, ev, evV, List.cons_append, List.nil_append, List.getD_cons_zero, List.getD_cons_succ, List.map_cons, List.map_nil, iOf, bOf, sOf, pOf, slLen, slBase, cmpI, arI, Value.ite_bool, int_beq, int_bne, ite_band, ite_bor]
    have hz' : (m.set i z)[k]? = some z := by
      rw [List.getElem?_set, if_neg (by omega)]; exact hz
    refine den_hPutZ (i := k) (a := z) (a' := a) (us := [.int .i64 a]) ?_ h2 hz' rfl ?_ (by simp [oneC]) (csIK_mk a4) fun K3 h3 => ?_
    · simp only [ev0, ev, evV, List.cons_append, List.nil_append, List.getD_cons_zero, List.getD_cons_succ, List.map_cons, List.map_nil, iOf, bOf, sOf, pOf, slLen, slBase, cmpI, arI, Value.ite_bool, int_beq, int_bne, ite_band, ite_bor]; rfl
    · simp only [ev0, ev, evV, List.cons_append, List.nil_append, List.getD_cons_zero, List.getD_cons_succ, List.map_cons, List.map_nil, iOf, bOf, sOf, pOf, slLen, slBase, cmpI, arI, Value.ite_bool, int_beq, int_bne, ite_band, ite_bor]
    refine ⟨_, lookup_hit, l.length - (i + 1), by omega, i + 1, (m.set i z).set k a, ?_, rfl, by omega, ?_, h3⟩
    · simp only [ev0, ev, evV, List.cons_append, List.nil_append, List.getD_cons_zero, List.getD_cons_succ, List.map_cons, List.map_nil, iOf, bOf, sOf, pOf, slLen, slBase, cmpI, arI, Value.ite_bool, int_beq, int_bne, ite_band, ite_bor]
      rw [w64 (by omega) (by omega), w64 (by omega) (by omega)]
      congr 2
      congr 1
      omega
    · subst hk'; exact hr.step hi2 ha hz
  · simp only [ev0, ev, evV, List.cons_append, List.nil_append, List.getD_cons_zero, List.getD_cons_succ, List.map_cons, List.map_nil, iOf, bOf, sOf, pOf, slLen, slBase, cmpI, arI, Value.ite_bool, int_beq, int_bne, ite_band, ite_bor, decide_eq_false_iff_not] at g
    have := hr.done (by omega)
    subst this
    exact ⟨rfl, h1⟩

/-! ### a row of one number, many times -/
def mulA : SV := match fm_math_bits_Mul64 with
  | .leaf (.tu [(_, [a]), _]) => a
  | _ => .int .u64 1
def mulB : SV := match fm_math_bits_Mul64 with
  | .leaf (.tu [_, (_, [b])]) => b
  | _ => .int .u64 1
theorem mul_all : ((List.range 2001).all fun R => decide (iOf (ev [.int .u64 1, .int .u64 (R : Int)] (fun _ => 0) mulA) = 0) && decide (iOf (ev [.int .u64 1, .int .u64 (R : Int)] (fun _ => 0) mulB) = (R : Int))) = true := by decide +kernel
end Go.Proofs.Ytlbbmcpppfiplaa.Vc
