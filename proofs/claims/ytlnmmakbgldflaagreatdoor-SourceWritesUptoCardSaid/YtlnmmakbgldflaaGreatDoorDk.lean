/-
  A NUMBER's TEXT BEHIND BYTES: strconv.AppendInt, over a part of the heap; by the shelf's contracts of the parts.
-/
import Derived.Test.YtlnmmakbgldflaaGreatDoorDj
set_option linter.unusedSimpArgs false
set_option linter.unusedVariables false
set_option maxRecDepth 100000
namespace Go.Proofs.YtlnmmakbgldflaaGreatDoor.Vc
open Go

/-- the table of powers lies in H -/
def Tab (H : PH) : Prop := ∃ g e f, Tryz.prog.globalNamed "internal/strconv.uint64pow10" = some g ∧ H g = some (.cells (Lib.pow10Tab.map fun z => Value.int .u64 z).toArray e f)
theorem Tab.le {H H' : PH} (h : Tab H) (hl : PH.le H H') : Tab H' := by
  obtain ⟨g, e, f, h1, h2⟩ := h; exact ⟨g, e, f, h1, hl _ _ h2⟩
theorem Tab.is {H : PH} {w : World} (h : Tab H) (hv : Vis H w) : Lib.TabIs Tryz.prog w "internal/strconv.uint64pow10" .u64 Lib.pow10Tab := by
  obtain ⟨g, e, f, h1, h2⟩ := h
  unfold Lib.TabIs World.var?
  rw [h1]
  simp only [Option.bind_some, hv _ _ h2]

theorem small_gives (i : Nat) (h : i < 100) (H : PH) : Gives Tryz.prog n_internal_strconv_small [.int .i64 i] H (txt (Lib.decDigits i)) :=
  Tri.ofKept fun w => Tryz.internal_strconv_small i h w
theorem numDigits_gives (u : Nat) (h1 : 1 ≤ u) (h2 : u < 18446744073709551616) (H : PH) (ht : Tab H) : Gives Tryz.prog n_internal_strconv_numDigits [.int .u64 u] H (.int .i64 (Lib.nDigits u)) := fun w hv =>
  (Tryz.internal_strconv_numDigits u h1 h2 w (ht.is hv)).mono fun e w' ⟨g1, g2⟩ => by subst g2; exact ⟨H, .refl hv, g1, PH.le_refl H⟩

abbrev encB (b : UInt8) : Value := .int .u8 (b.toNat : Int)
theorem formatBase10_tri (H : PH) (r : Nat) (T : TypeId) (u : Nat) (nd : Nat) (hnd : nd ≤ 24) (hr : H r = some (.cells (Array.replicate 24 (Value.int .u8 0)) T (0, 0))) (hu : u < 10 ^ nd) (hu64 : u < 18446744073709551616) :
    Tri Tryz.prog n_internal_strconv_formatBase10 #[.slice (some ⟨r, 0, none⟩) nd 24, .int .u64 u] H fun e H' => e = .returned (.tuple #[]) ∧ ∃ dk v', Lib.FmtInv nd u 0 v' dk ∧ H' = H.upd r (.cells (Sort.putCells encB 0 dk (Array.replicate 24 (Value.int .u8 0))) T (0, 0)) := by
  intro w hv
  have hw := hv _ _ hr
  have hH : Sort.Holds encB w r 0 (Array.replicate nd 0) := by
    intro j hj
    simp only [Array.size_replicate] at hj
    refine ⟨?_, ?_⟩
    · unfold World.cell?
      simp only [hw, Nat.zero_add]
      simp [show j < 24 by omega, hj]
    · unfold World.frozen?
      simp [hw]
  have := Tryz.internal_strconv_formatBase10 r 0 24 u (Array.replicate nd 0) w hH (by simpa using hu) hu64 (by simp; omega)
  rw [Array.size_replicate] at this
  refine this.mono ?_
  rintro e w' ⟨rfl, n, v', dk, rfl, hF⟩
  refine ⟨_, Adv.put (w' := (Sort.putRow encB w r 0 dk).drewN n) (o' := .cells (Sort.putCells encB 0 dk (Array.replicate 24 (Value.int .u8 0))) T (0, 0)) hv hr ?_ ?_ rfl rfl rfl, rfl, dk, v', hF, rfl⟩
  · simp [World.drewN, Sort.putRow, Sort.mapBlock]
  · intro k
    show (w.heap.modify r _)[k]? = _
    rw [Array.getElem?_modify]
    by_cases e : k = r
    · subst e; rw [if_pos rfl, if_pos rfl, hw]; rfl
    · rw [if_neg e, if_neg (Ne.symm e)]

theorem elemByte : ElemOk Tryz.prog 5 1 1 = true := by kernel_rfl
theorem exec_slice {P : Program} {Ψ : Value → PH → Prop} {H : PH} {Φ : Next → PH → Prop} {ρ : Operand → Value} {T ty : TypeId} {x : Operand} {lo hi mx : Option Operand} : wpS P (execOp ρ (bare (.slice T x lo hi mx) ty)) Φ Ψ H = wpS P (Instr.sliceAt T (ρ x) (lo.map ρ) (hi.map ρ) (mx.map ρ)) (fun v H' => Φ (.value v) H') Ψ H := by
  simp only [execOp, bare, wpS_bind', wpS_pure]
/-- the first n of an array -/
theorem wpS_sliceArr {P : Program} {Ψ : Value → PH → Prop} {H : PH} {Φ : Value → PH → Prop} {T e : TypeId} {m sz : Nat} {r n : Nat} {k : IntKind} (hT : P.underlying T = some (.array m e)) {i : TypeInfo} (hi : P.info? e = some i) (hn : n ≤ m)
    (hk : Φ (.slice (some ⟨r, 0, none⟩) n m) H) : wpS P (Instr.sliceAt T (.pointer (some ⟨r, 0, none⟩)) none (some (.int k (n : Int))) none) Φ Ψ H := by
  unfold Instr.sliceAt
  have hb : (0 : Int) ≤ (n : Int) ∧ (n : Int) ≤ (m : Int) := by omega
  simp only [wpS_bind', wpS_underlying hT, Instr.sureAddr, wpS_pure, Instr.sliceBounds, Instr.sliceBound, asIntOf, if_pos hb, wpS_sizeOf hi, Int.toNat_natCast, Nat.sub_zero, Nat.zero_mul]
  by_cases h : m = 0
  · rw [if_pos h]; exact hk
  · rw [if_neg h, Addr.add_plain]; exact hk

theorem uArr : Tryz.prog.underlying 132 = some (.array 24 5) := by kernel_rfl
theorem decDigits_len (u : Nat) (h : u < 18446744073709551616) : (Lib.decDigits u).length ≤ 20 := by
  rw [Lib.decDigits_length]; exact nDigits_le 19 u (by omega)

theorem AppendUint_tri (H0 H : PH) (u : Nat) (hu : u < 18446744073709551616) (out : List UInt8) (v : Value) (ht : Tab H) (hacc : Acc H0 H 5 out v) (hl : out.length ≤ 1099511627776) :
    Tri Tryz.prog n_internal_strconv_AppendUint #[v, .int .u64 u, .int .i64 10] H fun e H' => ∃ v', e = .returned v' ∧ Acc H0 H' 5 (out ++ Lib.decDigits u) v' ∧ Went H H' v v' := by
  have h20 := decDigits_len u hu
  obtain ⟨b, c, hv⟩ := hacc.sl
  refine tri_internal_strconv_AppendUint [v, .int .u64 u, .int .i64 10] ?_ (by kernel_rfl) ?_
  · rw [hv]; rfl
  refine ⟨fun _ => ?_, fun h => ?_⟩
  · refine ⟨fun h1 => ?_, fun h1 => ?_⟩
    · simp only [ev0, ev, evV, List.cons_append, List.nil_append, List.getD_cons_zero, List.getD_cons_succ, List.map_cons, List.map_nil, iOf, bOf, sOf, pOf, slLen, slBase, cmpI, arI, Value.ite_bool, int_beq, int_bne, ite_band, ite_bor, decide_eq_true_eq] at h1
      have hw : IntKind.i64.wrap (u : Int) = (u : Int) := w64 (by omega) (by omega)
      refine den_gives [txt (Lib.decDigits u)] cb_internal_strconv_small ?_ rfl pendNil fun H1 h2 => ?_
      · simp only [ev0, ev, evV, List.cons_append, List.nil_append, List.getD_cons_zero, List.getD_cons_succ, List.map_cons, List.map_nil, iOf, bOf, sOf, pOf, slLen, slBase, cmpI, arI, Value.ite_bool, int_beq, int_bne, ite_band, ite_bor, hw]
        exact small_gives u (by omega) H
      refine den_appendTxt (H0 := H0) (e := 5) (l := out) (more := Lib.decDigits u) uBytes uString elemByte rfl rfl (hacc.mono h2) (by omega) fun v' H' g1 g2 => ⟨pendNil, v', rfl, g1, g2.of_le h2⟩
    · simp only [ev0, ev, evV, List.cons_append, List.nil_append, List.getD_cons_zero, List.getD_cons_succ, List.map_cons, List.map_nil, iOf, bOf, sOf, pOf, slLen, slBase, cmpI, arI, Value.ite_bool, int_beq, int_bne, ite_band, ite_bor, decide_eq_false_iff_not] at h1
      intro r hr
      have h2 := PH.le_upd (o := .cells (Array.replicate 24 (Value.int .u8 0)) 132) hr
      have hcell : (H.upd r (.cells (Array.replicate 24 (Value.int .u8 0)) 132)) r = some (.cells (Array.replicate 24 (Value.int .u8 0)) 132 (0, 0)) := PH.upd_same
      have hz : (List.map (ev0 [v, .int .u64 u, .int .i64 10]) [.int .u8 0, .int .u8 0, .int .u8 0, .int .u8 0, .int .u8 0, .int .u8 0, .int .u8 0, .int .u8 0, .int .u8 0, .int .u8 0, .int .u8 0, .int .u8 0, .int .u8 0, .int .u8 0, .int .u8 0, .int .u8 0, .int .u8 0, .int .u8 0, .int .u8 0, .int .u8 0, .int .u8 0, .int .u8 0, .int .u8 0, .int .u8 0]).toArray = Array.replicate 24 (Value.int .u8 0) := rfl
      rw [hz]
      generalize hH1 : H.upd r (.cells (Array.replicate 24 (Value.int .u8 0)) 132) = H1 at h2 hcell
      refine den_gives [.int .i64 (Lib.nDigits u)] cb_internal_strconv_numDigits (numDigits_gives u (by omega) hu _ (ht.le h2)) rfl pendNil fun H2 h3 => ?_
      obtain ⟨i, z, hi, _⟩ := ElemOk.info elemByte
      have hnd : Lib.nDigits u ≤ 24 := by rw [← Lib.decDigits_length]; omega
      show wpS _ (execOp _ _) _ _ _
      rw [exec_slice]
      refine wpS_sliceArr (r := r) (sz := 1) (k := .i64) uArr hi hnd ⟨[_], rfl, rfl, pendNil, ?_⟩
      refine den_call cb_internal_strconv_formatBase10 (formatBase10_tri H2 r 132 u (Lib.nDigits u) hnd (h3 _ _ hcell) (Lib.lt_pow_nDigits u) hu) ?_
      rintro e H3 ⟨rfl, dk, v1, hF, rfl⟩
      refine ⟨_, [], rfl, rfl, rfl, pendNil, ?_⟩
      show wpS _ (execOp _ _) _ _ _
      rw [exec_slice]
      refine wpS_sliceArr (r := r) (sz := 1) (k := .i64) uArr hi hnd ⟨[_], rfl, rfl, pendNil, ?_⟩
      have h4 : PH.le H (H2.upd r (.cells (Sort.putCells encB 0 dk (Array.replicate 24 (Value.int .u8 0))) 132 (0, 0))) := by
        intro k o hk
        have : k ≠ r := fun e => by rw [e, hr] at hk; cases hk
        rw [PH.upd_other this]
        exact h3 _ _ (h2 _ _ hk)
      have hob : ob v ≠ some r := by
        obtain ⟨xs, ho, _⟩ := hacc.own
        rcases ho.2 with ⟨rfl, _⟩ | ⟨g, cap, cur, rfl, h5, _⟩
        · intro h; cases h
        · intro h
          simp only [ob, Option.some.injEq] at h
          subst h; rw [hr] at h5; cases h5
      have hrow : SlR (delV v (H2.upd r (.cells (Sort.putCells encB 0 dk (Array.replicate 24 (Value.int .u8 0))) 132 (0, 0)))) (Lib.decDigits u) (.slice (some ⟨r, 0, none⟩) (Lib.nDigits u) 24) := by
        rw [SlR.mk_iff]
        refine ⟨by simp only [maxLen]; omega, .inr ⟨⟨r, 0, none⟩, 24, by rw [Lib.decDigits_length], by omega, by simp only [maxLen]; omega, RepRows.of (txt_row _) fun j x hj => ?_⟩⟩
        rw [List.getElem?_map] at hj
        obtain ⟨d, hd, rfl⟩ := Option.map_eq_some_iff.1 hj
        obtain ⟨hjl, hd⟩ := List.getElem?_eq_some_iff.1 hd
        have hnum := Lib.row_is_numeral hF j hjl
        rw [hd] at hnum
        have hblk : (delV v (H2.upd r (.cells (Sort.putCells encB 0 dk (Array.replicate 24 (Value.int .u8 0))) 132 (0, 0)))) r = some (.cells (Sort.putCells encB 0 dk (Array.replicate 24 (Value.int .u8 0))) 132 (0, 0)) := by
          rw [delV_at hob, PH.upd_same]
        rw [Addr.add_plain, PH.cell_at hblk, Nat.zero_add]
        have hj24 : j < 24 := by omega
        have hjs : j < dk.size := by rw [hF.size, ← Lib.decDigits_length]; exact hjl
        simp only [Sort.putCells, Array.getElem?_mapIdx]
        simp [hj24, hjs, hnum]
      refine den_append (H0 := H0) (e := 5) (l := out) (more := Lib.decDigits u) (b := 1) uBytes elemByte rfl rfl (hacc.mono h4) hrow (by simp only [maxLen]; omega) (by omega) fun v' H' g1 g2 => ⟨pendNil, v', rfl, g1, g2.of_le h4⟩
  · simp only [ev0, ev, evV, List.cons_append, List.nil_append, List.getD_cons_zero, List.getD_cons_succ, List.map_cons, List.map_nil, iOf, bOf, sOf, pOf, slLen, slBase, cmpI, arI, Value.ite_bool, int_beq, int_bne, ite_band, ite_bor] at h
    simp at h

theorem AppendInt_tri (H0 H : PH) (n : Int) (hn : InI n) (out : List UInt8) (v : Value) (ht : Tab H) (ht0 : Tab H0) (hacc : Acc H0 H 5 out v) (hl : out.length ≤ 1099511627770) :
    Tri Tryz.prog n_internal_strconv_AppendInt #[v, .int .i64 n, .int .i64 10] H fun e H' => ∃ v', e = .returned v' ∧ Acc H0 H' 5 (out ++ Lib.itoa n) v' ∧ Went H H' v v' := by
  obtain ⟨n0, n1⟩ := hn
  obtain ⟨b, c, hv⟩ := hacc.sl
  refine tri_internal_strconv_AppendInt [v, .int .i64 n, .int .i64 10] ?_ (by kernel_rfl) ?_
  · rw [hv]; rfl
  have conv : ∀ m : Int, IntKind.u64.wrap m = m % 18446744073709551616 := fun m => by simp [IntKind.wrap, IntKind.bits, IntKind.signed]
  refine ⟨fun vs H' => ∃ v1, vs = [v1, .int .u64 n.natAbs] ∧ Acc H0 H' 5 (out ++ if n < 0 then [45] else []) v1 ∧ Went H H' v v1, ?_, ?_⟩
  · rintro vs H1 _ ⟨v1, rfl, h1, h2⟩
    have hT : Tab H1 := ht0.le h1.all
    refine den_call cb_internal_strconv_AppendUint (AppendUint_tri H0 H1 n.natAbs (by omega) _ v1 hT h1 (by simp only [List.length_append]; split <;> simp <;> omega)) ?_
    rintro e H2 ⟨v2, rfl, h3, h4⟩
    obtain ⟨b2, c2, hv2⟩ := h3.sl
    refine ⟨_, [v2], rfl, ?_, rfl, pendNil, v2, rfl, ?_, h2.trans h4⟩
    · rw [hv2]; rfl
    · have : Lib.itoa n = (if n < 0 then [45] else []) ++ Lib.decDigits n.natAbs := by
        unfold Lib.itoa
        by_cases h : n < 0
        · simp [h]
        · have : n.toNat = n.natAbs := by omega
          simp [h, this]
      rw [this, ← List.append_assoc]; exact h3
  · refine ⟨fun h => ?_, fun h => ?_⟩
    · simp only [ev0, ev, evV, List.cons_append, List.nil_append, List.getD_cons_zero, List.getD_cons_succ, List.map_cons, List.map_nil, iOf, bOf, sOf, pOf, slLen, slBase, cmpI, arI, Value.ite_bool, int_beq, int_bne, ite_band, ite_bor, decide_eq_true_eq] at h
      refine den_push (more := [(45 : UInt8)]) (b := 1) [.int .u8 45] uBytes elemByte rfl (by decide) (by decide) rfl (.cons ?_ .nil) pendNil hacc (fun _ => rfl) (fun _ => rfl) (by simp only [maxLen, List.length_cons, List.length_nil]; omega) (by simp; omega) fun u v' H' g3 g4 => ⟨pendNil, _, lookup_hit, v', ?_, ?_, g4⟩
      · show PV.RepRow _ [.int .u8 _] [_]
        simp only [PV.RepRow, PV.Rep]
        exact ⟨_, _, rfl, ⟨rfl, by decide, by decide⟩, rfl⟩
      · simp only [ev0, ev, evV, List.cons_append, List.nil_append, List.getD_cons_zero, List.getD_cons_succ, List.map_cons, List.map_nil, iOf, bOf, sOf, pOf, slLen, slBase, cmpI, arI, Value.ite_bool, int_beq, int_bne, ite_band, ite_bor, conv]
        have : (0 - n % 18446744073709551616) % 18446744073709551616 = (n.natAbs : Int) := by omega
        rw [this]
      · rw [if_pos h]; exact g3
    · simp only [ev0, ev, evV, List.cons_append, List.nil_append, List.getD_cons_zero, List.getD_cons_succ, List.map_cons, List.map_nil, iOf, bOf, sOf, pOf, slLen, slBase, cmpI, arI, Value.ite_bool, int_beq, int_bne, ite_band, ite_bor, decide_eq_false_iff_not] at h
      refine ⟨_, lookup_hit, v, ?_, ?_, Went.refl H v⟩
      · simp only [ev0, ev, evV, List.cons_append, List.nil_append, List.getD_cons_zero, List.getD_cons_succ, List.map_cons, List.map_nil, iOf, bOf, sOf, pOf, slLen, slBase, cmpI, arI, Value.ite_bool, int_beq, int_bne, ite_band, ite_bor, conv]
        have : n % 18446744073709551616 = (n.natAbs : Int) := by omega
        rw [this]
      · rw [if_neg h, List.append_nil]; exact hacc
theorem AppendIntF_tri (H0 H : PH) (n : Int) (hn : InI n) (out : List UInt8) (v : Value) (ht : Tab H) (ht0 : Tab H0) (hacc : Acc H0 H 5 out v) (hl : out.length ≤ 1099511627770) :
    Tri Tryz.prog n_strconv_AppendInt #[v, .int .i64 n, .int .i64 10] H fun e H' => ∃ v', e = .returned v' ∧ Acc H0 H' 5 (out ++ Lib.itoa n) v' ∧ Went H H' v v' := by
  obtain ⟨b, c, hv⟩ := hacc.sl
  refine tri_strconv_AppendInt [v, .int .i64 n, .int .i64 10] ?_ (by kernel_rfl) ?_
  · rw [hv]; rfl
  refine den_call cb_internal_strconv_AppendInt (AppendInt_tri H0 H n hn out v ht ht0 hacc hl) ?_
  rintro e H2 ⟨v2, rfl, h3, h4⟩
  obtain ⟨b2, c2, hv2⟩ := h3.sl
  exact ⟨_, [v2], rfl, by rw [hv2]; rfl, rfl, pendNil, v2, rfl, h3, h4⟩
end Go.Proofs.YtlnmmakbgldflaaGreatDoor.Vc

