/-
  Texts on the way to the statement, one behind the other, without what it does not reach.
-/
import Derived.Test.YtcfgpbmcgmkmhaaMl
set_option linter.unusedSimpArgs false
set_option linter.unusedVariables false
set_option maxRecDepth 100000
/-
  LIVE: what stands in an idle register is of no moment: a step. No program in sight.
-/
namespace Go.Proofs.Ytcfgpbmcgmkmhaa.Vc
open Go

theorem blk_some {p : PrcX} {j : Int} {k : Nat} {x : InsX} (h : (blkAt p j).ins[k]? = some x) : p.blocks[j.toNat]? = some (blkAt p j) := by
  unfold blkAt at h ⊢
  rw [List.getD_eq_getElem?_getD] at h ⊢
  cases hx : p.blocks[j.toNat]? with
  | none => rw [hx] at h; simp at h
  | some b => rfl
theorem prc_mem {c : CodeX} {j : Int} {b : Nat} {x : BlkX} (h : (prcAt c j).blocks[b]? = some x) : prcAt c j ∈ c := by
  unfold prcAt at h ⊢
  rw [List.getD_eq_getElem?_getD] at h ⊢
  cases hx : c[j.toNat]? with
  | none => rw [hx] at h; simp at h
  | some q => exact List.mem_of_getElem? hx
section
variable {K : Dat → VX} {c : CodeX} {i bi : Nat} {p : PrcX} {bl : BlkX} {t : Int} {d : Dat}
theorem idle_ins (ok : CodeOk c) (hp : c[i]? = some p) (hb : p.blocks[bi]? = some bl) {m m' : MX} {ws ws' : List ActX} {a a' : ActX} (hc : CoreR (WaitX c) m m') (he : m.e = 0) (hd : m.done = false) (h1 : m.acts = ws ++ [a]) (h2 : m'.acts = ws' ++ [a']) (hw : All2 (WaitX c) ws ws') (hr : RunX c i bi a a') (hs : a'.at_ = a.at_ + offX i bi a) {x : InsX} (hx : (blkAt (prcAt c a.proc) a.block).ins[a.at_.toNat]? = some x) :
    EndX2 (m.step K c) (m'.step K (idleC c i bi p bl t d)) ∨ MR (WaitX c) (RunX c i bi) (m.step K c) (m'.step K (idleC c i bi p bl t d)) := by
  have hbk := blk_some hx
  have hpm := prc_mem hbk
  have hbm := List.mem_of_getElem? hbk
  have hxm := List.mem_of_getElem? hx
  obtain ⟨i1, i2⟩ := ok.ins _ hpm _ hbm _ hxm
  have g1 : m.acts.getLast?.getD default = a := by rw [h1, last_snoc]; rfl
  have g2 : m'.acts.getLast?.getD default = a' := by rw [h2, last_snoc]; rfl
  have hB : blkAt (prcAt (idleC c i bi p bl t d) a'.proc) a'.block = if a.proc.toNat = i ∧ a.block.toNat = bi then idleB t d bl else blkAt (prcAt c a.proc) a.block := by
    rw [hr.proc, hr.block]; exact idle_blk hp hb a
  have h0 := hr.at0
  have hx' : (blkAt (prcAt (idleC c i bi p bl t d) a'.proc) a'.block).ins[a'.at_.toNat]? = some x := by
    rw [hB, hs]
    unfold offX
    by_cases e : a.proc.toNat = i ∧ a.block.toNat = bi
    · rw [if_pos e, if_pos e]
      have e1 : (a.at_ + 1).toNat = a.at_.toNat + 1 := by omega
      have e2 : blkAt (prcAt c a.proc) a.block = bl := by
        rw [prc_is hp e.1] at hbk ⊢
        rw [e.2, hb] at hbk
        exact (Option.some.inj hbk).symm
      rw [e1]
      show (⟨constB, t, [], d, 0⟩ :: bl.ins)[a.at_.toNat + 1]? = _
      rw [List.getElem?_cons_succ, ← e2]; exact hx
    · rw [if_neg e, if_neg e, Int.add_zero]; exact hx
  have s1 : m.step K c = ({ m with acts := ws ++ [{ a with at_ := a.at_ + 1 }] } : MX).ins K x := by
    unfold MX.step; simp only [g1, hx, last_is h1]
  have s2 : m'.step K (idleC c i bi p bl t d) = ({ m' with acts := ws' ++ [{ a' with at_ := a'.at_ + 1 }] } : MX).ins K x := by
    unfold MX.step; simp only [g2, hx', last_is h2]
  rw [s1, s2]
  have hlen := (List.getElem?_eq_some_iff.1 hx).1
  have e1 : (a.at_ + 1).toNat = a.at_.toNat + 1 := by omega
  have hlen2 : a.at_ + 1 ≤ ((blkAt (prcAt c a.proc) a.block).ins.length : Int) := by omega
  have live : ∀ r, needX c a r ↔ r ∈ x.args ∨ (¬ x.fills r ∧ needX c { a with at_ := a.at_ + 1 } r) := fun r => by
    have hno : ¬ (prcAt c a.proc).blocks[a.block.toNat]? = none := by rw [hbk]; simp
    unfold needX
    show LiveAt _ r _ _ ∨ _ ↔ _ ∨ (_ ∧ (LiveAt _ r _ (a.at_ + 1).toNat ∨ _))
    rw [e1, live_ins hbk hx]
    constructor
    · rintro (h | h)
      · exact h.imp id fun h => ⟨h.1, .inl h.2⟩
      · exact absurd h hno
    · rintro (h | ⟨h, h' | h'⟩)
      · exact .inl (.inl h)
      · exact .inl (.inr ⟨h, h'⟩)
      · exact absurd h' hno
  refine ins_rel (hc.acts _ _) he hd rfl rfl hw (by exact hr.clo) rfl rfl rfl ?_ (fun hop v => ?_) (fun hop => ?_)
  · refine List.map_congr_left fun r hrm => ?_
    exact (AgreeR.reg (a := a) (a' := a') hr.regs (i1 r hrm) ((live r).2 (.inl hrm))).symm
  · refine ⟨hr.proc, hr.clo, hr.block, by show 0 ≤ a.at_ + 1; omega, hlen2, .inl ?_, ?_⟩
    · show a'.at_ + 1 = a.at_ + 1 + offX i bi a
      rw [hs]; omega
    · exact hr.regs.set (i2 hop) v fun r hr' => by
        by_cases e : r = x.to
        · exact .inl e
        · exact .inr ((live r).2 (.inr ⟨fun hf => e hf.2.symm, hr'⟩))
  · refine ⟨hr.proc, hr.clo, hr.block, by show 0 ≤ a.at_ + 1; omega, hlen2, .inl ?_, ?_⟩
    · show a'.at_ + 1 = a.at_ + 1 + offX i bi a
      rw [hs]; omega
    · exact hr.regs.less fun r hr' => (live r).2 (.inr ⟨fun hf => hf.1 hop, hr'⟩)
end
end Go.Proofs.Ytcfgpbmcgmkmhaa.Vc
/-
  LIVE: what stands in an idle register is of no moment: a block's end. No program in sight.
-/
namespace Go.Proofs.Ytcfgpbmcgmkmhaa.Vc
open Go

theorem reads_reg {e : EndX} (h : 1 ≤ e.kind ∧ e.kind ≤ 6) : e.reads e.reg = true := by
  unfold EndX.reads
  by_cases h1 : e.kind = 1 ∨ e.kind = 2 ∨ e.kind = 5 ∨ e.kind = 6
  · rw [if_pos h1]; simp
  · rw [if_neg h1, if_pos (by omega)]; simp
theorem reads_arg {e : EndX} (h : e.kind = 3 ∨ e.kind = 4) {r : Int} (hr : r ∈ e.args) : e.reads r = true := by
  unfold EndX.reads
  rw [if_neg (by omega), if_pos (by omega)]
  simp [hr]
section
variable {K : Dat → VX} {c : CodeX} {i bi : Nat} {p : PrcX} {bl : BlkX} {t : Int} {d : Dat}
theorem idle_fin (ok : CodeOk c) (hp : c[i]? = some p) (hb : p.blocks[bi]? = some bl) {m m' : MX} {ws ws' : List ActX} {a a' : ActX} (hc : CoreR (WaitX c) m m') (he : m.e = 0) (hd : m.done = false) (h1 : m.acts = ws ++ [a]) (h2 : m'.acts = ws' ++ [a']) (hw : All2 (WaitX c) ws ws') (hr : RunX c i bi a a') (hs : a'.at_ = a.at_ + offX i bi a) (hx : (blkAt (prcAt c a.proc) a.block).ins[a.at_.toNat]? = none) :
    EndX2 (m.step K c) (m'.step K (idleC c i bi p bl t d)) ∨ MR (WaitX c) (RunX c i bi) (m.step K c) (m'.step K (idleC c i bi p bl t d)) := by
  have g1 : m.acts.getLast?.getD default = a := by rw [h1, last_snoc]; rfl
  have g2 : m'.acts.getLast?.getD default = a' := by rw [h2, last_snoc]; rfl
  have h0 := hr.at0
  have hlen := hr.len
  have hge := List.getElem?_eq_none_iff.1 hx
  have hat : a.at_.toNat = (blkAt (prcAt c a.proc) a.block).ins.length := by omega
  have hB : blkAt (prcAt (idleC c i bi p bl t d) a'.proc) a'.block = if a.proc.toNat = i ∧ a.block.toNat = bi then idleB t d bl else blkAt (prcAt c a.proc) a.block := by
    rw [hr.proc, hr.block]; exact idle_blk hp hb a
  have hbl : a.proc.toNat = i ∧ a.block.toNat = bi → blkAt (prcAt c a.proc) a.block = bl := fun e => by
    unfold blkAt
    rw [prc_is hp e.1, List.getD_eq_getElem?_getD, e.2, hb]; rfl
  have hx' : (blkAt (prcAt (idleC c i bi p bl t d) a'.proc) a'.block).ins[a'.at_.toNat]? = none ∧ (blkAt (prcAt (idleC c i bi p bl t d) a'.proc) a'.block).e = (blkAt (prcAt c a.proc) a.block).e := by
    rw [hB, hs]
    unfold offX
    by_cases e : a.proc.toNat = i ∧ a.block.toNat = bi
    · rw [if_pos e, if_pos e]
      refine ⟨?_, by rw [hbl e]; rfl⟩
      rw [List.getElem?_eq_none_iff]
      show (⟨constB, t, [], d, 0⟩ :: bl.ins).length ≤ _
      rw [List.length_cons, ← hbl e]; omega
    · rw [if_neg e, if_neg e, Int.add_zero]; exact ⟨hx, rfl⟩
  have s1 : m.step K c = m.fin c (blkAt (prcAt c a.proc) a.block).e := by
    unfold MX.step; simp only [g1, hx]
  have s2 : m'.step K (idleC c i bi p bl t d) = m'.fin (idleC c i bi p bl t d) (blkAt (prcAt c a.proc) a.block).e := by
    unfold MX.step; simp only [g2, hx'.1, hx'.2]
  rw [s1, s2]
  have hpar : ∀ j : Int, (prcAt c j).params = (prcAt (idleC c i bi p bl t d) j).params := fun j => by
    rw [idle_prc hp]
    by_cases e : j.toNat = i
    · rw [if_pos e, prc_is hp e]; rfl
    · rw [if_neg e]
  have key : EndX2 (m.fin c (blkAt (prcAt c a.proc) a.block).e) (m'.fin (idleC c i bi p bl t d) (blkAt (prcAt c a.proc) a.block).e) ∨ MR (WaitX c) (RunX c i bi) (m.fin c (blkAt (prcAt c a.proc) a.block).e) (m'.fin (idleC c i bi p bl t d) (blkAt (prcAt c a.proc) a.block).e) ∨ MR (WaitX c) (RunX c i bi) (m.fin c (blkAt (prcAt c a.proc) a.block).e) (m'.fin (idleC c i bi p bl t d) (blkAt (prcAt c a.proc) a.block).e) := by
    cases hbk : (prcAt c a.proc).blocks[a.block.toNat]? with
    | none =>
      have hB0 : blkAt (prcAt c a.proc) a.block = ⟨[], ⟨0, 0, [], 0, 0, 0⟩⟩ := by
        unfold blkAt; rw [List.getD_eq_getElem?_getD, hbk]; rfl
      rw [hB0]
      refine fin_rel (N := RunX c i bi) hc he hd h1 h2 hw rfl rfl (fun h => absurd rfl h) (fun _ _ _ _ _ => ?_) (fun h => by simp at h) (fun a a' v h => wait_run v h) hpar (fun j k args _ => new_run hp j k args)
      exact ⟨hr.proc, hr.clo, rfl, Int.le_refl _, by show (0 : Int) ≤ _; omega, .inr ⟨rfl, rfl⟩, hr.regs.less fun r _ => .inr hbk⟩
    | some B =>
      have hBB : blkAt (prcAt c a.proc) a.block = B := by
        unfold blkAt; rw [List.getD_eq_getElem?_getD, hbk]; rfl
      rw [hBB] at hat ⊢
      have hpm := prc_mem hbk
      obtain ⟨f1, f2, f3, f4, f5, f6, f7, f8⟩ := ok.fin _ hpm _ (List.mem_of_getElem? hbk)
      have liveE : ∀ r, B.e.reads r = true ∨ (¬ (B.e.calls = true ∧ B.e.to = r) ∧ ∃ j : Nat, (j : Int) ∈ B.e.leads (prcAt c a.proc).blocks.length ∧ LiveAt (prcAt c a.proc) r j 0) → needX c a r := fun r h => by
        refine .inl ?_
        rw [hat]
        exact (live_end hbk).2 h
      have goes : ∀ (nb : Int), nb ∈ B.e.ways → 0 ≤ nb → nb < (prcAt c a.proc).blocks.length → ∀ r, (LiveAt (prcAt c a.proc) r nb.toNat 0 ∨ (prcAt c a.proc).blocks[nb.toNat]? = none) → ¬ (B.e.calls = true ∧ B.e.to = r) → needX c a r := fun nb hm h0 hlt r hl hno => by
        rcases hl with hl | hl
        · refine liveE r (.inr ⟨hno, nb.toNat, List.mem_filter.2 ⟨by rw [show ((nb.toNat : Nat) : Int) = nb by omega]; exact hm, by simp; omega⟩, hl⟩)
        · rw [List.getElem?_eq_none_iff] at hl; omega
      refine fin_rel (N := RunX c i bi) hc he hd h1 h2 hw rfl ?_ (fun h => ?_) (fun n2 n3 n4 n5 n6 => ?_) (fun h => ?_) (fun a a' v h => wait_run v h) hpar (fun j k args _ => new_run hp j k args)
      · refine List.map_congr_left fun r hrm => ?_
        exact (AgreeR.reg hr.regs (f1 r hrm) (liveE r (.inl (reads_arg (f8 (fun e => by rw [e] at hrm; cases hrm)) hrm)))).symm
      · exact (AgreeR.reg hr.regs f2 (liveE _ (.inl (reads_reg (by omega))))).symm
      · obtain ⟨v, hv⟩ : ∃ v, v = (if B.e.kind = 0 then vNone else regAt a B.e.reg) := ⟨_, rfl⟩
        rw [← hv]
        have hnc : ∀ r, ¬ (B.e.calls = true ∧ B.e.to = r) := fun r h => by
          have := h.1
          unfold EndX.calls at this
          have := of_decide_eq_true this
          omega
        refine ⟨hr.proc, hr.clo, rfl, Int.le_refl _, by show (0 : Int) ≤ _; omega, .inr ⟨rfl, rfl⟩, hr.regs.less fun r hn => ?_⟩
        by_cases hk : B.e.kind = 1 ∧ v = vNone
        · have hn' : LiveAt (prcAt c a.proc) r B.e.els.toNat 0 ∨ (prcAt c a.proc).blocks[B.e.els.toNat]? = none := by
            have hn2 : LiveAt (prcAt c a.proc) r (if B.e.kind = 1 ∧ v = vNone then B.e.els else B.e.next).toNat 0 ∨ (prcAt c a.proc).blocks[(if B.e.kind = 1 ∧ v = vNone then B.e.els else B.e.next).toNat]? = none := hn
            rw [if_pos hk] at hn2; exact hn2
          exact goes _ (by unfold EndX.ways; rw [if_pos hk.1]; simp) (f5 hk.1).1 (f5 hk.1).2 r hn' (hnc r)
        · have hn' : LiveAt (prcAt c a.proc) r B.e.next.toNat 0 ∨ (prcAt c a.proc).blocks[B.e.next.toNat]? = none := by
            have hn2 : LiveAt (prcAt c a.proc) r (if B.e.kind = 1 ∧ v = vNone then B.e.els else B.e.next).toNat 0 ∨ (prcAt c a.proc).blocks[(if B.e.kind = 1 ∧ v = vNone then B.e.els else B.e.next).toNat]? = none := hn
            rw [if_neg hk] at hn2; exact hn2
          have hkk : B.e.kind = 0 ∨ B.e.kind = 1 ∨ B.e.kind = 4 ∨ B.e.kind = 6 := by omega
          exact goes _ (by unfold EndX.ways; rw [if_pos hkk]; simp) (f4 hkk).1 (f4 hkk).2 r hn' (hnc r)
      · have hkk : B.e.kind = 0 ∨ B.e.kind = 1 ∨ B.e.kind = 4 ∨ B.e.kind = 6 := by omega
        have hbk' : (endAct B.e (regAt a B.e.reg) a).block = B.e.next := by
          show (if B.e.kind = 1 ∧ _ then B.e.els else B.e.next) = _
          rw [if_neg (by omega)]
        refine ⟨hr.proc, hr.clo, rfl, rfl, rfl, rfl, f3, hr.regs.less fun r hn => ?_⟩
        have hn' : LiveAt (prcAt c a.proc) r B.e.next.toNat 0 ∨ (prcAt c a.proc).blocks[B.e.next.toNat]? = none := by
          have hn2 : LiveAt (prcAt c a.proc) r (endAct B.e (regAt a B.e.reg) a).block.toNat 0 ∨ (prcAt c a.proc).blocks[(endAct B.e (regAt a B.e.reg) a).block.toNat]? = none := hn.1
          rw [hbk'] at hn2; exact hn2
        exact goes _ (by unfold EndX.ways; rw [if_pos hkk]; simp) (f4 hkk).1 (f4 hkk).2 r hn' (fun h => hn.2 h.2.symm)
  rcases key with h | h | h
  · exact .inl h
  · exact .inr h
  · exact .inr h
end
end Go.Proofs.Ytcfgpbmcgmkmhaa.Vc
/-
  LIVE: what stands in an idle register is of no moment: the run. No program in sight.
-/
namespace Go.Proofs.Ytcfgpbmcgmkmhaa.Vc
open Go

section
variable {K : Dat → VX} {c : CodeX} {i bi : Nat} {p : PrcX} {bl : BlkX} {t : Int} {d : Dat}
theorem idle_sync (ok : CodeOk c) (hp : c[i]? = some p) (hb : p.blocks[bi]? = some bl) {m m' : MX} {ws ws' : List ActX} {a a' : ActX} (hc : CoreR (WaitX c) m m') (he : m.e = 0) (hd : m.done = false) (h1 : m.acts = ws ++ [a]) (h2 : m'.acts = ws' ++ [a']) (hw : All2 (WaitX c) ws ws') (hr : RunX c i bi a a') (hs : a'.at_ = a.at_ + offX i bi a) :
    EndX2 (m.step K c) (m'.step K (idleC c i bi p bl t d)) ∨ MR (WaitX c) (RunX c i bi) (m.step K c) (m'.step K (idleC c i bi p bl t d)) := by
  cases hx : (blkAt (prcAt c a.proc) a.block).ins[a.at_.toNat]? with
  | some x => exact idle_ins ok hp hb hc he hd h1 h2 hw hr hs hx
  | none => exact idle_fin ok hp hb hc he hd h1 h2 hw hr hs hx
theorem idle_step (ok : CodeOk c) (hp : c[i]? = some p) (hb : p.blocks[bi]? = some bl) (ht : 0 ≤ t) (hidle : ¬ LiveAt p t bi 0) (m m' : MX) (h : MR (WaitX c) (RunX c i bi) m m') :
    ∃ s m1', s ≤ 2 ∧ Reach K (idleC c i bi p bl t d) s m' m1' ∧ (EndX2 (m.step K c) m1' ∨ MR (WaitX c) (RunX c i bi) (m.step K c) m1') := by
  obtain ⟨hc, he, hd, ws, a, ws', a', h1, h2, hw, hr⟩ := h
  have he' : m'.e = 0 := by rw [← hc.e]; exact he
  have hd' : m'.done = false := by rw [← hc.done]; exact hd
  have sync : a'.at_ = a.at_ + offX i bi a → ∃ s m1', s ≤ 2 ∧ Reach K (idleC c i bi p bl t d) s m' m1' ∧ (EndX2 (m.step K c) m1' ∨ MR (WaitX c) (RunX c i bi) (m.step K c) m1') := fun hs =>
    ⟨1, _, by omega, .step he' hd' (.zero _), idle_sync ok hp hb hc he hd h1 h2 hw hr hs⟩
  rcases hr.at_ with hs | ⟨z1, z2⟩
  · exact sync hs
  by_cases e : a.proc.toNat = i ∧ a.block.toNat = bi
  · have g2 : m'.acts.getLast?.getD default = a' := by rw [h2, last_snoc]; rfl
    have hB : blkAt (prcAt (idleC c i bi p bl t d) a'.proc) a'.block = idleB t d bl := by
      rw [hr.proc, hr.block, idle_blk hp hb a, if_pos e]
    have hx : (blkAt (prcAt (idleC c i bi p bl t d) a'.proc) a'.block).ins[a'.at_.toNat]? = some ⟨constB, t, [], d, 0⟩ := by
      rw [hB, z2]; rfl
    have s1 : m'.step K (idleC c i bi p bl t d) = { m' with acts := ws' ++ [{ a' with at_ := a'.at_ + 1, regs := a'.regs.set t.toNat (K d) }] } := by
      have e1 : m'.step K (idleC c i bi p bl t d) = ({ m' with acts := ws' ++ [{ a' with at_ := a'.at_ + 1 }] } : MX).ins K ⟨constB, t, [], d, 0⟩ := by
        unfold MX.step; simp only [g2, hx, last_is h2]
      rw [e1]
      unfold MX.ins MX.put MX.last
      simp [constB, he']
    have hr2 : RunX c i bi a { a' with at_ := a'.at_ + 1, regs := a'.regs.set t.toNat (K d) } := by
      refine ⟨hr.proc, hr.clo, hr.block, hr.at0, hr.len, .inl ?_, hr.regs.idle ht (K d) fun hn => ?_⟩
      · show a'.at_ + 1 = a.at_ + offX i bi a
        unfold offX
        rw [if_pos e, z1, z2]
      · unfold needX at hn
        rw [prc_is hp e.1, e.2, z1] at hn
        rcases hn with hn | hn
        · exact hidle hn
        · rw [hb] at hn; cases hn
    have hfin := idle_sync (K := K) (t := t) (d := d) ok hp hb (hc.acts m.acts (ws' ++ [{ a' with at_ := a'.at_ + 1, regs := a'.regs.set t.toNat (K d) }])) he hd h1 rfl hw hr2 (hr2.at_.resolve_right fun hh => by
      have : a'.at_ + 1 = 0 := hh.2
      omega)
    refine ⟨2, _, by omega, .step he' hd' (.step ?_ ?_ (.zero _)), ?_⟩
    · rw [s1]; exact he'
    · rw [s1]; exact hd'
    · rw [s1]; exact hfin
  · refine sync ?_
    unfold offX
    rw [if_neg e, z1, z2]; rfl
/-- the code with a constant put into an idle register runs on as before -/
theorem idle_go (ok : CodeOk c) (hp : c[i]? = some p) (hb : p.blocks[bi]? = some bl) (ht : 0 ≤ t) (hidle : ¬ LiveAt p t bi 0) (fuel : Nat) (m m' : MX) (n n' fuel' : Nat) (h : MR (WaitX c) (RunX c i bi) m m') (he : (MX.go K c fuel m n).1.e ≠ 93) (hf : 2 * ((MX.go K c fuel m n).2 - n) ≤ fuel') :
    TermX (MX.go K c fuel m n).1 (MX.go K (idleC c i bi p bl t d) fuel' m' n').1 :=
  go_sim (R := MR (WaitX c) (RunX c i bi)) (S := 2) (fun m m' h => ⟨h.e0, h.d0⟩) (fun m m' h => idle_step ok hp hb ht hidle m m' h) fuel m m' n n' fuel' h he hf
/-- the first machines are alike -/
theorem idle_first (hp : c[i]? = some p) (input : List UInt8) : EndX2 (MX.first c input) (MX.first (idleC c i bi p bl t d) input) ∨ MR (WaitX c) (RunX c i bi) (MX.first c input) (MX.first (idleC c i bi p bl t d) input) := by
  have hpar : ∀ j : Int, (prcAt c j).params = (prcAt (idleC c i bi p bl t d) j).params := fun j => by
    rw [idle_prc hp]
    by_cases e : j.toNat = i
    · rw [if_pos e, prc_is hp e]; rfl
    · rw [if_neg e]
  have hc0 : CoreR (WaitX c) (⟨[], [], [], input, [], ⟨4, 0, []⟩, vNone, false, 0⟩ : MX) ⟨[], [], [], input, [], ⟨4, 0, []⟩, vNone, false, 0⟩ := ⟨rfl, rfl, rfl, rfl, rfl, rfl, rfl, .nil⟩
  obtain ⟨m1, m2, m3, m4, m5, m6⟩ := made_rel hc0 (x := ⟨0, 0, [], false, []⟩) (y := ⟨0, 0, [], false, []⟩) rfl rfl rfl .nil
  unfold MX.first
  simp only
  rcases call_rel (N := RunX c i bi) m1 (m6.trans rfl) (m5.trans rfl) (MX.made (⟨[], [], [], input, [], ⟨4, 0, []⟩, vNone, false, 0⟩ : MX) ⟨0, 0, [], false, []⟩).2 [] true (by rw [m3]; exact .nil) (fun a a' v h => wait_run v h) hpar (fun j k _ => new_run hp j k []) with h | h | h
  · exact .inl h
  · exact .inr h
  · exact .inr h
end
end Go.Proofs.Ytcfgpbmcgmkmhaa.Vc
/-
  CODE: constants that may be, how many arguments a primitive has: plain functions, and the document's answers.
-/
namespace Go.Proofs.Ytcfgpbmcgmkmhaa.Vc
open Go

def ar0 : List (List UInt8) := [[114, 101, 97, 100, 45, 117, 56], [101, 114, 114, 111, 114], [118, 111, 105, 100], [37, 119, 105, 110, 100, 101, 114, 115], [37, 117, 110, 115, 101, 116]]
def ar1 : List (List UInt8) := [[110, 117, 108, 108, 63], [112, 97, 105, 114, 63], [118, 101, 99, 116, 111, 114, 63], [115, 116, 114, 105, 110, 103, 63], [115, 121, 109, 98, 111, 108, 63], [99, 104, 97, 114, 63], [105, 110, 116, 101, 103, 101, 114, 63], [98, 111, 111, 108, 101, 97, 110, 63], [112, 114, 111, 99, 101, 100, 117, 114, 101, 63], [101, 111, 102, 45, 111, 98, 106, 101, 99, 116, 63], [99, 97, 114], [99, 100, 114], [118, 101, 99, 116, 111, 114, 45, 108, 101, 110, 103, 116, 104], [115, 116, 114, 105, 110, 103, 45, 108, 101, 110, 103, 116, 104], [99, 104, 97, 114, 45, 62, 105, 110, 116, 101, 103, 101, 114], [105, 110, 116, 101, 103, 101, 114, 45, 62, 99, 104, 97, 114], [119, 114, 105, 116, 101, 45, 117, 56], [37, 98, 111, 120], [37, 117, 110, 98, 111, 120], [37, 119, 105, 110, 100, 33], [37, 99, 97, 108, 108, 99, 99]]
def ar2 : List (List UInt8) := [[43], [45], [42], [113, 117, 111, 116, 105, 101, 110, 116], [114, 101, 109, 97, 105, 110, 100, 101, 114], [60], [61], [101, 113, 63], [99, 111, 110, 115], [115, 101, 116, 45, 99, 97, 114, 33], [115, 101, 116, 45, 99, 100, 114, 33], [109, 97, 107, 101, 45, 118, 101, 99, 116, 111, 114], [118, 101, 99, 116, 111, 114, 45, 114, 101, 102], [109, 97, 107, 101, 45, 115, 116, 114, 105, 110, 103], [115, 116, 114, 105, 110, 103, 45, 114, 101, 102], [37, 115, 101, 116, 45, 98, 111, 120, 33]]
def ar3 : List (List UInt8) := [[118, 101, 99, 116, 111, 114, 45, 115, 101, 116, 33], [115, 116, 114, 105, 110, 103, 45, 115, 101, 116, 33]]
/-- how many arguments a primitive has -/
def arityI (p : List UInt8) : Int := if ar0.contains p then 0 else if ar1.contains p then 1 else if ar2.contains p then 2 else if ar3.contains p then 3 else -1
def dat0 : Dat := .mk 0 0 [] []
def isDat0 (d : Dat) : Bool := decide (d.kind = 0) && decide (d.int = 0) && d.text.isEmpty && d.list.isEmpty
theorem isDat0_iff {d : Dat} : isDat0 d = true ↔ d = dat0 := by
  obtain ⟨k, n, t, l⟩ := d
  show (decide (k = 0) && decide (n = 0) && t.isEmpty && l.isEmpty) = true ↔ Dat.mk k n t l = .mk 0 0 [] []
  simp [and_assoc]
/-- may a datum be a constant? -/
def constOk (d : Dat) : Bool := decide ((d.chk 0 0).2 = 0) && (decide (d.kind = 0) || decide (d.kind = 1) || decide (d.kind = 2) || decide (d.kind = 4) || (decide (d.kind = 5) && d.list.isEmpty))
theorem RConst_gives (d : Dat) (cs : List Value) (H : PH) (hd : d.Rep H cs) : Gives Try.prog n_scrimshawref06_Const [.agg cs.toArray] H (.bool (constOk d)) := by
  have hc := RCheckF_gives d cs H hd
  obtain ⟨sv, rfl, hk, hn, ht, hs⟩ := Dat.Rep_iff.1 hd
  obtain ⟨b, c, rfl⟩ := hs.sl
  refine tri_scrimshawref06_Const [.int .i64 d.kind, .int .i64 d.int, txt d.text, .slice b d.list.length c] (by kernel_rfl) (by kernel_rfl) ?_
  refine den_gives [.int .i64 (d.chk 0 0).2] cb_scrimshawref02_Check hc rfl pendNil fun H1 h1 => ⟨fun g => ⟨?_, h1⟩, fun g => ⟨?_, h1⟩⟩
  · simp only [evs, evb, decide_eq_true_eq] at g
    have : constOk d = false := by unfold constOk; simp [g]
    simp only [evs, evb, this]
  · simp only [evs, evb, decide_eq_false_iff_not, ne_eq, Decidable.not_not] at g
    simp only [evs, evb]
    congr 2
    unfold constOk
    rw [← list_empty]
    simp only [g, decide_true, Bool.true_and]
def ar1a : List (List UInt8) := ar1.take 10
def ar1b : List (List UInt8) := ar1.drop 10
def ar2a : List (List UInt8) := ar2.take 11
def ar2b : List (List UInt8) := ar2.drop 11
theorem ar1_con (p : List UInt8) : ar1.contains p = (ar1a.contains p || ar1b.contains p) := by
  conv => lhs; rw [show ar1 = ar1a ++ ar1b from (List.take_append_drop 10 ar1).symm]
  rw [List.contains_append]
theorem ar2_con (p : List UInt8) : ar2.contains p = (ar2a.contains p || ar2b.contains p) := by
  conv => lhs; rw [show ar2 = ar2a ++ ar2b from (List.take_append_drop 11 ar2).symm]
  rw [List.contains_append]
theorem RArity_gives (p : List UInt8) (H : PH) : Gives Try.prog n_scrimshawref06_Arity [txt p] H (.int .i64 (arityI p)) := by
  refine tri_scrimshawref06_Arity [txt p] (by kernel_rfl) (by kernel_rfl) ?_
  refine ⟨fun vs H' => vs = [.bool (ar0.contains p)] ∧ H' = H, ?_, ?_⟩
  · rintro vs H' _ ⟨rfl, rfl⟩
    refine ⟨fun h => ?_, fun h => ?_⟩
    · simp only [evs, evb] at h
      exact ⟨by simp only [evs, evb, arityI, h]; rfl, PH.le_refl _⟩
    simp only [evs, evb] at h
    refine ⟨fun vs H2 => vs = [.bool (ar1a.contains p)] ∧ H2 = H', ?_, ?_⟩
    · rintro vs H' _ ⟨rfl, rfl⟩
      refine ⟨fun h2 => ?_, fun h2 => ?_⟩
      · simp only [evs, evb] at h2
        exact ⟨by simp only [evs, evb, arityI, h, ar1_con, h2]; rfl, PH.le_refl _⟩
      simp only [evs, evb] at h2
      refine ⟨fun vs H2 => vs = [.bool (ar1b.contains p)] ∧ H2 = H', ?_, ?_⟩
      · rintro vs H' _ ⟨rfl, rfl⟩
        refine ⟨fun h3 => ?_, fun h3 => ?_⟩
        · simp only [evs, evb] at h3
          exact ⟨by simp only [evs, evb, arityI, h, ar1_con, h2, h3]; rfl, PH.le_refl _⟩
        simp only [evs, evb] at h3
        refine ⟨fun vs H3 => vs = [.bool (ar2a.contains p)] ∧ H3 = H', ?_, ?_⟩
        · rintro vs H' _ ⟨rfl, rfl⟩
          refine ⟨fun h4 => ?_, fun h4 => ?_⟩
          · simp only [evs, evb] at h4
            exact ⟨by simp only [evs, evb, arityI, h, ar1_con, h2, h3, ar2_con, h4]; rfl, PH.le_refl _⟩
          simp only [evs, evb] at h4
          refine ⟨fun vs H3 => vs = [.bool (ar2b.contains p)] ∧ H3 = H', ?_, ?_⟩
          · rintro vs H' _ ⟨rfl, rfl⟩
            refine ⟨fun h5 => ?_, fun h5 => ?_⟩
            · simp only [evs, evb] at h5
              exact ⟨by simp only [evs, evb, arityI, h, ar1_con, h2, h3, ar2_con, h4, h5]; rfl, PH.le_refl _⟩
            simp only [evs, evb] at h5
            refine ⟨fun h6 => ?_, fun h6 => ?_⟩
            · simp only [evs, evb, txt_eql] at h6
              have : ar3.contains p = true := by simp [ar3] at h6 ⊢; exact h6
              exact ⟨by simp only [evs, evb, arityI, h, ar1_con, h2, h3, ar2_con, h4, h5, this]; rfl, PH.le_refl _⟩
            · simp only [evs, evb, txt_eql] at h6
              have : ar3.contains p = false := by simp [ar3] at h6 ⊢; exact h6
              exact ⟨by simp only [evs, evb, arityI, h, ar1_con, h2, h3, ar2_con, h4, h5, this]; rfl, PH.le_refl _⟩
          · repeat' refine And.intro (fun h => ?_) (fun h => ?_)
            all_goals
              refine ⟨_, lookup_hit, ?_, rfl⟩
              simp only [evs, evb, txt_eql, decide_eq_true_eq, decide_eq_false_iff_not] at *
              simp_all [ar2b, ar2]
        · repeat' refine And.intro (fun h => ?_) (fun h => ?_)
          all_goals
            refine ⟨_, lookup_hit, ?_, rfl⟩
            simp only [evs, evb, txt_eql, decide_eq_true_eq, decide_eq_false_iff_not] at *
            simp_all [ar2a, ar2]
      · repeat' refine And.intro (fun h => ?_) (fun h => ?_)
        all_goals
          refine ⟨_, lookup_hit, ?_, rfl⟩
          simp only [evs, evb, txt_eql, decide_eq_true_eq, decide_eq_false_iff_not] at *
          simp_all [ar1b, ar1]
    · repeat' refine And.intro (fun h => ?_) (fun h => ?_)
      all_goals
        refine ⟨_, lookup_hit, ?_, rfl⟩
        simp only [evs, evb, txt_eql, decide_eq_true_eq, decide_eq_false_iff_not] at *
        simp_all [ar1a, ar1]
  · repeat' refine And.intro (fun h => ?_) (fun h => ?_)
    all_goals
      refine ⟨_, lookup_hit, ?_, rfl⟩
      simp only [evs, evb, txt_eql, decide_eq_true_eq, decide_eq_false_iff_not] at *
      simp_all [ar0]
end Go.Proofs.Ytcfgpbmcgmkmhaa.Vc
/-
  CODE RUN: which codes may be, and what stands in a machine that runs one. No program in sight.
-/
namespace Go.Proofs.Ytcfgpbmcgmkmhaa.Vc
open Go

def movB : List UInt8 := [109, 111, 118, 101]
def hldB : List UInt8 := [104, 101, 108, 100]
def cloB : List UInt8 := [99, 108, 111, 115, 117, 114, 101]
def ccB : List UInt8 := [37, 99, 97, 108, 108, 99, 99]
def regsOk (p : PrcX) (l : List Int) : Bool := l.all fun r => decide (0 ≤ r ∧ r < p.regs)
def insOk (c : CodeX) (p : PrcX) (x : InsX) : Bool :=
  if !regsOk p x.args || (!regsOk p [x.to] && !decide (x.op = tieB)) then false
  else if x.op = constB then decide (x.args.length = 0) && decide (x.num = 0) && constOk x.const
  else if x.op = movB then decide (x.args.length = 1) && decide (x.num = 0) && isDat0 x.const
  else if x.op = hldB then decide (x.args.length = 0) && decide (0 ≤ x.num) && decide (x.num < p.holds) && isDat0 x.const
  else if x.op = cloB then decide (1 ≤ x.num) && decide (x.num < c.length) && decide ((x.args.length : Int) = (prcAt c x.num).holds) && isDat0 x.const
  else if x.op = tieB then decide (x.args.length = 2) && decide (0 ≤ x.num) && decide (x.to = 0) && isDat0 x.const
  else if x.op = ccB then false
  else decide (arityI x.op = x.args.length) && decide (x.num = 0) && isDat0 x.const
def finOk (p : PrcX) (e : EndX) : Bool :=
  let reg := regsOk p [e.reg]
  let to := regsOk p [e.to]
  let args := regsOk p e.args && decide (e.args.length ≤ 6)
  let none := e.args.isEmpty
  let next := decide (0 ≤ e.next) && decide (e.next < p.blocks.length)
  let other := decide (0 ≤ e.els) && decide (e.els < p.blocks.length)
  if e.kind = 0 then next && none && decide (e.reg = 0) && decide (e.to = 0) && decide (e.els = 0)
  else if e.kind = 1 then next && other && none && reg && decide (e.to = 0)
  else if e.kind = 2 ∨ e.kind = 5 then reg && none && decide (e.to = 0) && decide (e.next = 0) && decide (e.els = 0)
  else if e.kind = 3 then reg && args && decide (e.to = 0) && decide (e.next = 0) && decide (e.els = 0)
  else if e.kind = 4 then reg && args && to && next && decide (e.els = 0)
  else if e.kind = 6 then reg && none && to && next && decide (e.els = 0)
  else false
def BlkX.many (b : BlkX) : Nat := 1 + b.ins.length
def PrcX.many (p : PrcX) : Nat := (p.blocks.map BlkX.many).sum
def manyC (c : CodeX) : Nat := (c.map PrcX.many).sum
def prcOk (c : CodeX) (p : PrcX) : Bool :=
  decide (0 ≤ p.params) && decide (p.params ≤ 6) && decide (0 ≤ p.holds) && decide (p.holds ≤ 1000) && decide (p.params ≤ p.regs) && !p.blocks.isEmpty &&
    p.blocks.all fun b => b.ins.all (insOk c p) && finOk p b.e
def tooMany (c : CodeX) : Bool := (c.any fun p => decide (2000 < p.regs)) || decide (4096 < manyC c) || decide (300 < c.length)
def checkX (c : CodeX) : Int :=
  if tooMany c then 151
  else match c with
  | [] => 150
  | p :: _ => if decide (p.params = 0) && decide (p.holds = 0) && c.all (prcOk c) then 0 else 150

/-! ### what a code that may be is -/
structure GoodC (c : CodeX) : Prop where
  many : manyC c ≤ 4096
  few : c.length ≤ 300
  regs : ∀ p ∈ c, p.regs ≤ 2000
  first : ∃ p l, c = p :: l ∧ p.params = 0 ∧ p.holds = 0
  prcs : ∀ p ∈ c, prcOk c p = true
theorem checkX_good {c : CodeX} (h : checkX c = 0) : GoodC c := by
  unfold checkX at h
  by_cases hm : tooMany c = true
  · rw [if_pos hm] at h; omega
  rw [if_neg hm] at h
  simp only [tooMany, Bool.or_eq_true, List.any_eq_true, decide_eq_true_eq, not_or, not_exists, not_and] at hm
  match c, h with
  | [], h => simp at h
  | p :: l, h =>
    simp only at h
    split at h
    · rename_i hh
      simp only [Bool.and_eq_true, decide_eq_true_eq, List.all_eq_true] at hh
      exact ⟨by omega, by omega, fun p hp => by have := hm.1.1 p hp; omega, ⟨p, l, rfl, hh.1⟩, hh.2⟩
    · omega
theorem sum_mem {α : Type} (f : α → Nat) : ∀ {l : List α} {a : α}, a ∈ l → f a ≤ (l.map f).sum
  | b :: l, a, h => by
    rw [List.map_cons, List.sum_cons]
    rcases List.mem_cons.1 h with rfl | h
    · omega
    · have := sum_mem f h; omega
theorem sum_len {α : Type} (f : α → Nat) (h : ∀ a, 1 ≤ f a) : ∀ l : List α, l.length ≤ (l.map f).sum
  | [] => Nat.zero_le _
  | a :: l => by
    have := sum_len f h l
    have := h a
    rw [List.map_cons, List.sum_cons, List.length_cons]; omega
theorem many_blk {p : PrcX} {b : BlkX} (h : b ∈ p.blocks) : 1 + b.ins.length ≤ p.many := sum_mem BlkX.many h
theorem many_prc {c : CodeX} {p : PrcX} (h : p ∈ c) : p.many ≤ manyC c := sum_mem PrcX.many h
theorem many_blks (p : PrcX) : p.blocks.length ≤ p.many := sum_len BlkX.many (fun b => by unfold BlkX.many; omega) p.blocks
structure GoodP (c : CodeX) (p : PrcX) : Prop where
  params : 0 ≤ p.params ∧ p.params ≤ 6
  holds : 0 ≤ p.holds ∧ p.holds ≤ 1000
  regs : p.params ≤ p.regs ∧ p.regs ≤ 2000
  blocks : 0 < p.blocks.length ∧ p.blocks.length ≤ 4096
  ins : ∀ b ∈ p.blocks, b.ins.length ≤ 4096 ∧ ∀ x ∈ b.ins, insOk c p x = true
  fin : ∀ b ∈ p.blocks, finOk p b.e = true
theorem GoodC.prc {c : CodeX} (h : GoodC c) {p : PrcX} (hp : p ∈ c) : GoodP c p := by
  have h1 := h.prcs p hp
  simp only [prcOk, Bool.and_eq_true, decide_eq_true_eq, Bool.not_eq_true', List.all_eq_true, List.isEmpty_eq_false_iff] at h1
  have h2 := many_prc hp
  have h3 := h.many
  have h4 := h.regs p hp
  have h5 := many_blks p
  refine ⟨by omega, by omega, by omega, ⟨List.length_pos_iff.2 h1.1.2, by omega⟩, fun b hb => ⟨?_, (h1.2 b hb).1⟩, fun b hb => (h1.2 b hb).2⟩
  have := many_blk hb; omega
theorem prcAt_mem {c : CodeX} {i : Int} (h0 : 0 ≤ i) (h1 : i < c.length) : prcAt c i ∈ c ∧ c[i.toNat]? = some (prcAt c i) := by
  have hlt : i.toNat < c.length := by omega
  have : prcAt c i = c[i.toNat] := by
    unfold prcAt
    rw [List.getD_eq_getElem?_getD, List.getElem?_eq_getElem hlt]; rfl
  rw [this]
  exact ⟨List.getElem_mem hlt, List.getElem?_eq_getElem hlt⟩
theorem blkAt_mem {p : PrcX} {i : Int} (h0 : 0 ≤ i) (h1 : i < p.blocks.length) : blkAt p i ∈ p.blocks ∧ p.blocks[i.toNat]? = some (blkAt p i) := by
  have hlt : i.toNat < p.blocks.length := by omega
  have : blkAt p i = p.blocks[i.toNat] := by
    unfold blkAt
    rw [List.getD_eq_getElem?_getD, List.getElem?_eq_getElem hlt]; rfl
  rw [this]
  exact ⟨List.getElem_mem hlt, List.getElem?_eq_getElem hlt⟩
theorem regsOk_iff {p : PrcX} {l : List Int} : regsOk p l = true ↔ ∀ r ∈ l, 0 ≤ r ∧ r < p.regs := by
  unfold regsOk; rw [List.all_eq_true]; simp only [decide_eq_true_eq]
/-- what the run asks of an instruction -/
structure InsGood (c : CodeX) (p : PrcX) (x : InsX) : Prop where
  args : ∀ r ∈ x.args, 0 ≤ r ∧ r < p.regs
  to : x.op ≠ tieB → 0 ≤ x.to ∧ x.to < p.regs
  konst : x.op = constB → constOk x.const = true
  move : x.op = movB → x.args.length = 1
  held : x.op = hldB → 0 ≤ x.num ∧ x.num < p.holds
  closure : x.op = cloB → 1 ≤ x.num ∧ x.num < c.length ∧ (x.args.length : Int) = (prcAt c x.num).holds
  tie : x.op = tieB → x.args.length = 2 ∧ 0 ≤ x.num
  prim : x.op ≠ constB → x.op ≠ movB → x.op ≠ hldB → x.op ≠ cloB → x.op ≠ tieB → arityI x.op = x.args.length
theorem insOk_good {c : CodeX} {p : PrcX} {x : InsX} (h : insOk c p x = true) : InsGood c p x := by
  unfold insOk at h
  split at h
  · cases h
  rename_i h1
  simp only [Bool.or_eq_true, Bool.and_eq_true, Bool.not_eq_true', decide_eq_false_iff_not, not_or, not_and, Bool.not_eq_false] at h1
  have ha := regsOk_iff.1 h1.1
  have ht : x.op ≠ tieB → 0 ≤ x.to ∧ x.to < p.regs := fun hop => by
    have : regsOk p [x.to] = true := by
      cases hr : regsOk p [x.to] with
      | true => rfl
      | false => exact absurd hop (by simpa using h1.2 hr)
    exact regsOk_iff.1 this _ (List.mem_singleton.2 rfl)
  have dd : constB ≠ movB ∧ constB ≠ hldB ∧ constB ≠ cloB ∧ constB ≠ tieB ∧ movB ≠ hldB ∧ movB ≠ cloB ∧ movB ≠ tieB ∧ hldB ≠ cloB ∧ hldB ≠ tieB ∧ cloB ≠ tieB := by decide
  obtain ⟨d1, d2, d3, d4, d5, d6, d7, d8, d9, d10⟩ := dd
  by_cases e1 : x.op = constB
  · rw [if_pos e1] at h
    simp only [Bool.and_eq_true] at h
    exact ⟨ha, ht, fun _ => h.2, fun e => absurd (e1.symm.trans e) d1, fun e => absurd (e1.symm.trans e) d2, fun e => absurd (e1.symm.trans e) d3, fun e => absurd (e1.symm.trans e) d4, fun e => absurd e1 e⟩
  rw [if_neg e1] at h
  by_cases e2 : x.op = movB
  · rw [if_pos e2] at h
    simp only [Bool.and_eq_true, decide_eq_true_eq] at h
    exact ⟨ha, ht, fun e => absurd e e1, fun _ => h.1.1, fun e => absurd (e2.symm.trans e) d5, fun e => absurd (e2.symm.trans e) d6, fun e => absurd (e2.symm.trans e) d7, fun _ e => absurd e2 e⟩
  rw [if_neg e2] at h
  by_cases e3 : x.op = hldB
  · rw [if_pos e3] at h
    simp only [Bool.and_eq_true, decide_eq_true_eq] at h
    exact ⟨ha, ht, fun e => absurd e e1, fun e => absurd e e2, fun _ => ⟨h.1.1.2, h.1.2⟩, fun e => absurd (e3.symm.trans e) d8, fun e => absurd (e3.symm.trans e) d9, fun _ _ e => absurd e3 e⟩
  rw [if_neg e3] at h
  by_cases e4 : x.op = cloB
  · rw [if_pos e4] at h
    simp only [Bool.and_eq_true, decide_eq_true_eq] at h
    exact ⟨ha, ht, fun e => absurd e e1, fun e => absurd e e2, fun e => absurd e e3, fun _ => ⟨h.1.1.1, h.1.1.2, h.1.2⟩, fun e => absurd (e4.symm.trans e) d10, fun _ _ _ e => absurd e4 e⟩
  rw [if_neg e4] at h
  by_cases e5 : x.op = tieB
  · rw [if_pos e5] at h
    simp only [Bool.and_eq_true, decide_eq_true_eq] at h
    exact ⟨ha, ht, fun e => absurd e e1, fun e => absurd e e2, fun e => absurd e e3, fun e => absurd e e4, fun _ => ⟨h.1.1.1, h.1.1.2⟩, fun _ _ _ _ e => absurd e5 e⟩
  rw [if_neg e5] at h
  split at h
  · cases h
  simp only [Bool.and_eq_true, decide_eq_true_eq] at h
  exact ⟨ha, ht, fun e => absurd e e1, fun e => absurd e e2, fun e => absurd e e3, fun e => absurd e e4, fun e => absurd e e5, fun _ _ _ _ _ => h.1.1⟩
/-- what the run asks of an end -/
structure FinGood (p : PrcX) (e : EndX) : Prop where
  kind : 0 ≤ e.kind ∧ e.kind ≤ 6
  reg : e.kind ≠ 0 → 0 ≤ e.reg ∧ e.reg < p.regs
  reg0 : 0 ≤ e.reg
  to0 : 0 ≤ e.to
  args : ∀ r ∈ e.args, 0 ≤ r ∧ r < p.regs
  few : e.args.length ≤ 6
  argsK : e.args ≠ [] → e.kind = 3 ∨ e.kind = 4
  next : e.kind = 0 ∨ e.kind = 1 ∨ e.kind = 4 ∨ e.kind = 6 → 0 ≤ e.next ∧ e.next < p.blocks.length
  els : e.kind = 1 → 0 ≤ e.els ∧ e.els < p.blocks.length
  nextA : 0 ≤ e.next ∧ (e.next < p.blocks.length ∨ e.next = 0)
  to : e.kind = 4 ∨ e.kind = 6 → 0 ≤ e.to ∧ e.to < p.regs
theorem finOk_good {p : PrcX} {e : EndX} (h : finOk p e = true) : FinGood p e := by
  have r1 : ∀ {r : Int}, regsOk p [r] = true → 0 ≤ r ∧ r < p.regs := fun h => regsOk_iff.1 h _ (List.mem_singleton.2 rfl)
  unfold finOk at h
  simp only at h
  have nil : ∀ {P : Prop}, e.args.isEmpty = true → ((∀ r ∈ e.args, 0 ≤ r ∧ r < p.regs) ∧ e.args.length ≤ 6 ∧ (e.args ≠ [] → P)) := fun {P} hn => by
    have : e.args = [] := List.isEmpty_iff.1 hn
    rw [this]; simp
  by_cases k0 : e.kind = 0
  · rw [if_pos k0] at h
    simp only [Bool.and_eq_true, decide_eq_true_eq] at h
    obtain ⟨a1, a2, a3⟩ := nil (P := e.kind = 3 ∨ e.kind = 4) h.1.1.1.2
    exact ⟨by omega, fun hk => absurd k0 hk, by omega, by omega, a1, a2, a3, fun _ => h.1.1.1.1, by omega, by omega, by omega⟩
  rw [if_neg k0] at h
  by_cases k1 : e.kind = 1
  · rw [if_pos k1] at h
    simp only [Bool.and_eq_true, decide_eq_true_eq] at h
    obtain ⟨a1, a2, a3⟩ := nil (P := e.kind = 3 ∨ e.kind = 4) h.1.1.2
    have := r1 h.1.2
    exact ⟨by omega, fun _ => this, by omega, by omega, a1, a2, a3, fun _ => h.1.1.1.1, fun _ => h.1.1.1.2, by omega, by omega⟩
  rw [if_neg k1] at h
  by_cases k2 : e.kind = 2 ∨ e.kind = 5
  · rw [if_pos k2] at h
    simp only [Bool.and_eq_true, decide_eq_true_eq] at h
    obtain ⟨a1, a2, a3⟩ := nil (P := e.kind = 3 ∨ e.kind = 4) h.1.1.1.2
    have := r1 h.1.1.1.1
    exact ⟨by omega, fun _ => this, by omega, by omega, a1, a2, a3, by omega, by omega, by omega, by omega⟩
  rw [if_neg k2] at h
  by_cases k3 : e.kind = 3
  · rw [if_pos k3] at h
    simp only [Bool.and_eq_true, decide_eq_true_eq] at h
    have := r1 h.1.1.1.1
    exact ⟨by omega, fun _ => this, by omega, by omega, regsOk_iff.1 h.1.1.1.2.1, h.1.1.1.2.2, fun _ => .inl k3, by omega, by omega, by omega, by omega⟩
  rw [if_neg k3] at h
  by_cases k4 : e.kind = 4
  · rw [if_pos k4] at h
    simp only [Bool.and_eq_true, decide_eq_true_eq] at h
    have := r1 h.1.1.1.1
    have h2 := r1 h.1.1.2
    exact ⟨by omega, fun _ => this, by omega, by omega, regsOk_iff.1 h.1.1.1.2.1, h.1.1.1.2.2, fun _ => .inr k4, fun _ => h.1.2, by omega, by omega, fun _ => h2⟩
  rw [if_neg k4] at h
  by_cases k6 : e.kind = 6
  · rw [if_pos k6] at h
    simp only [Bool.and_eq_true, decide_eq_true_eq] at h
    obtain ⟨a1, a2, a3⟩ := nil (P := e.kind = 3 ∨ e.kind = 4) h.1.1.1.2
    have := r1 h.1.1.1.1
    have h2 := r1 h.1.1.2
    exact ⟨by omega, fun _ => this, by omega, by omega, a1, a2, a3, fun _ => h.1.2, by omega, by omega, fun _ => h2⟩
  rw [if_neg k6] at h
  cases h
/-- what the plain law asks -/
theorem GoodC.ok {c : CodeX} (h : GoodC c) : CodeOk c := by
  refine ⟨fun p hp b hb x hx => ?_, fun p hp b hb => ?_⟩
  · have hx := insOk_good (((h.prc hp).ins b hb).2 x hx)
    exact ⟨fun r hr => (hx.args r hr).1, fun hop => (hx.to hop).1⟩
  · have he := finOk_good ((h.prc hp).fin b hb)
    exact ⟨fun r hr => (he.args r hr).1, he.reg0, he.to0, he.next, he.els, he.kind.1, he.kind.2, he.argsK⟩
end Go.Proofs.Ytcfgpbmcgmkmhaa.Vc
/-
  CODE RUN: what stands in a machine that runs a code that may be, step by step. No program in sight.
-/
namespace Go.Proofs.Ytcfgpbmcgmkmhaa.Vc
open Go

structure ActOk (c : CodeX) (cl : List CloX) (a : ActX) : Prop where
  proc : 0 ≤ a.proc ∧ a.proc < c.length
  regs : (a.regs.length : Int) = (prcAt c a.proc).regs
  clo0 : 0 ≤ a.clo
  clo : ∃ x, cl[a.clo.toNat]? = some x ∧ x.kont = false ∧ x.proc = a.proc
  blk : 0 ≤ a.block ∧ a.block < (prcAt c a.proc).blocks.length
  at_ : 0 ≤ a.at_ ∧ a.at_ ≤ (blkAt (prcAt c a.proc) a.block).ins.length
def WaitOk (a : ActX) : Prop := 0 ≤ a.to ∧ a.to < a.regs.length
structure CloOk (c : CodeX) (cl : List CloX) (n : Nat) (x : CloX) : Prop where
  kont : x.kont = true → ∀ a ∈ x.acts, ActOk c cl a ∧ WaitOk a
  fn : x.kont = false → (0 ≤ x.proc ∧ x.proc < c.length) ∧ (x.held.length : Int) = (prcAt c x.proc).holds
  few : x.acts.length ≤ n
/-- closures go on being what they were -/
def CloLe (cl cl' : List CloX) : Prop := ∀ (i : Nat) (x : CloX), cl[i]? = some x → ∃ x' : CloX, cl'[i]? = some x' ∧ x'.kont = x.kont ∧ x'.proc = x.proc
/-- what there is, but for the acts' order -/
structure CoreOk (c : CodeX) (n : Nat) (m : MX) : Prop where
  heap : HeapOk m.h
  hn : m.h.length ≤ n
  cn : m.clos.length ≤ n
  on : m.out.length ≤ n
  clos : ∀ x ∈ m.clos, CloOk c m.clos n x
structure ActsOk (c : CodeX) (n : Nat) (m : MX) : Prop where
  an : m.acts.length ≤ n
  acts : ∀ a ∈ m.acts, ActOk c m.clos a
structure RunOk (c : CodeX) (n : Nat) (m : MX) : Prop where
  core : CoreOk c n m
  acts : ActsOk c n m
  last : m.acts ≠ []
  wait : ∀ a ∈ m.acts.dropLast, WaitOk a
/-- at a step's end: it runs on, or has ended -/
def StepOk (c : CodeX) (n : Nat) (m : MX) : Prop := CoreOk c n m ∧ (m.e = 0 → m.done = false → RunOk c n m)

section
variable {c : CodeX} {n : Nat} {m : MX}
theorem CloLe.refl (cl : List CloX) : CloLe cl cl := fun _ x h => ⟨x, h, rfl, rfl⟩
theorem CloLe.add (cl : List CloX) (y : CloX) : CloLe cl (cl ++ [y]) := fun i x h => ⟨x, by rw [List.getElem?_append_left (List.getElem?_eq_some_iff.1 h).1]; exact h, rfl, rfl⟩
theorem CloLe.set {cl : List CloX} {k : Nat} {y : CloX} (hk : ∀ x, cl[k]? = some x → y.kont = x.kont ∧ y.proc = x.proc) : CloLe cl (cl.set k y) := fun i x h => by
  rw [List.getElem?_set]
  by_cases e : k = i
  · subst e
    rw [if_pos rfl, if_pos (List.getElem?_eq_some_iff.1 h).1]
    exact ⟨y, rfl, hk x h⟩
  · rw [if_neg e]; exact ⟨x, h, rfl, rfl⟩
theorem ActOk.mono {cl cl' : List CloX} {a : ActX} (h : ActOk c cl a) (hl : CloLe cl cl') : ActOk c cl' a := by
  obtain ⟨x, h1, h2, h3⟩ := h.clo
  obtain ⟨x', h4, h5, h6⟩ := hl _ x h1
  exact ⟨h.proc, h.regs, h.clo0, ⟨x', h4, h5.trans h2, h6.trans h3⟩, h.blk, h.at_⟩
theorem CloOk.mono {cl cl' : List CloX} {n' : Nat} {x : CloX} (h : CloOk c cl n x) (hl : CloLe cl cl') (hn : n ≤ n') : CloOk c cl' n' x :=
  ⟨fun hk a ha => ⟨(h.kont hk a ha).1.mono hl, (h.kont hk a ha).2⟩, h.fn, Nat.le_trans h.few hn⟩
theorem CoreOk.more {n' : Nat} (h : CoreOk c n m) (hn : n ≤ n') : CoreOk c n' m := ⟨h.heap, Nat.le_trans h.hn hn, Nat.le_trans h.cn hn, Nat.le_trans h.on hn, fun x hx => (h.clos x hx).mono (CloLe.refl _) hn⟩
theorem ActsOk.more {n' : Nat} (h : ActsOk c n m) (hn : n ≤ n') : ActsOk c n' m := ⟨Nat.le_trans h.an hn, h.acts⟩
theorem RunOk.more {n' : Nat} (h : RunOk c n m) (hn : n ≤ n') : RunOk c n' m := ⟨h.core.more hn, h.acts.more hn, h.last, h.wait⟩
theorem StepOk.of_run (h : RunOk c n m) : StepOk c n m := ⟨h.core, fun _ _ => h⟩
theorem StepOk.of_end (h : CoreOk c n m) (he : m.e ≠ 0 ∨ m.done = true) : StepOk c n m := ⟨h, fun h1 h2 => by
  rcases he with he | he
  · exact absurd h1 he
  · rw [he] at h2; cases h2⟩
/-- what does not touch closures and heap -/
theorem CoreOk.same {m' : MX} (h : CoreOk c n m) (h1 : m'.h = m.h) (h2 : m'.clos = m.clos) (h3 : m'.out.length ≤ n) : CoreOk c n m' := by
  refine ⟨by rw [h1]; exact h.heap, by rw [h1]; exact h.hn, by rw [h2]; exact h.cn, h3, ?_⟩
  rw [h2]; exact h.clos
/-- a new closure -/
theorem made_ok (h : CoreOk c n m) {x : CloX} (hx : ∀ i, CloOk c (m.clos ++ [{ x with thing := i }]) (n + 1) { x with thing := i }) : CoreOk c (n + 1) (m.made x).1 ∧ CloLe m.clos (m.made x).1.clos := by
  have hle := CloLe.add m.clos { x with thing := (addX m.h 4 []).2.int }
  refine ⟨⟨?_, ?_, ?_, ?_, ?_⟩, hle⟩
  · exact (addX_ok h.heap (by omega) (fun v hv => by cases hv) (by omega) (by omega) (by omega) (by simp)).1
  · show (addX m.h 4 []).1.length ≤ n + 1
    have := h.hn
    simp only [addX, List.length_append, List.length_cons, List.length_nil]; omega
  · show (m.clos ++ [_]).length ≤ n + 1
    have := h.cn
    simp only [List.length_append, List.length_cons, List.length_nil]; omega
  · exact Nat.le_succ_of_le h.on
  · intro y hy
    rcases List.mem_append.1 (show y ∈ m.clos ++ [_] from hy) with hy | hy
    · exact (h.clos y hy).mono hle (Nat.le_succ n)
    · rw [List.mem_singleton.1 hy]; exact hx _
theorem dropLast_mem {α : Type} {l : List α} {a : α} (h : a ∈ l.dropLast) : a ∈ l := List.dropLast_subset l h
theorem snoc_of {α : Type} {l : List α} (h : l ≠ []) : ∃ ws a, l = ws ++ [a] := ⟨l.dropLast, l.getLast h, (List.dropLast_concat_getLast h).symm⟩
/-- a value told to those that wait -/
theorem tell_ok (h : CoreOk c n m) (ha : ActsOk c n m) (hw : ∀ a ∈ m.acts, WaitOk a) (v : VX) : StepOk c n (m.tell v) := by
  by_cases hn : m.acts = []
  · have : m.tell v = { m with told := v, done := true } := by unfold MX.tell; rw [hn]; rfl
    rw [this]
    exact .of_end (h.same rfl rfl h.on) (.inr rfl)
  · obtain ⟨ws, a, hs⟩ := snoc_of hn
    have : m.tell v = { m with acts := ws ++ [{ a with regs := a.regs.set a.to.toNat v }] } := by unfold MX.tell; rw [hs]; simp
    rw [this]
    refine .of_run ⟨h.same rfl rfl h.on, ⟨?_, ?_⟩, by simp, ?_⟩
    · have := ha.an; rw [hs] at this; simpa using this
    · intro b hb
      rcases List.mem_append.1 (show b ∈ ws ++ [_] from hb) with hb | hb
      · exact ha.acts b (by rw [hs]; exact List.mem_append_left _ hb)
      · rw [List.mem_singleton.1 hb]
        have h1 := ha.acts a (by rw [hs]; simp)
        exact ⟨h1.proc, by rw [← h1.regs]; simp, h1.clo0, h1.clo, h1.blk, h1.at_⟩
    · intro b hb
      have : b ∈ ws := by simpa using hb
      exact hw b (by rw [hs]; exact List.mem_append_left _ this)
theorem find_some {v : VX} {k : Nat} (h : m.find v = some k) : ∃ x, m.clos[k]? = some x := by
  unfold MX.find at h
  rw [List.findIdx?_eq_some_iff_getElem] at h
  obtain ⟨h1, _⟩ := h
  exact ⟨_, List.getElem?_eq_getElem h1⟩
theorem newAct_regs (p : PrcX) (proc : Int) (k : Nat) (args : List VX) (h : 0 ≤ p.regs) : ((newAct p proc k args).regs.length : Int) = p.regs := by
  show (((List.range p.regs.toNat).map _).length : Int) = _
  rw [List.length_map, List.length_range]; omega
theorem call_ok (g : GoodC c) (h : CoreOk c n m) (ha : ActsOk c n m) (v : VX) (args : List VX) (behind : Bool) (hw : ∀ a ∈ (if behind then m.acts else m.acts.dropLast), WaitOk a) : StepOk c (n + 1) (m.call c v args behind) := by
  have e90 : (90 : Int) ≠ 0 := by decide
  have e91 : (91 : Int) ≠ 0 := by decide
  unfold MX.call
  cases hf : m.find v with
  | none => exact .of_end ((h.more (Nat.le_succ n)).same rfl rfl (Nat.le_succ_of_le h.on)) (.inl e90)
  | some k =>
    obtain ⟨x, hx⟩ := find_some hf
    have hgd : m.clos.getD k default = x := by rw [List.getD_eq_getElem?_getD, hx]; rfl
    simp only [hgd]
    have hxo := h.clos x (List.mem_of_getElem? hx)
    cases hk : x.kont with
    | true =>
      simp only [if_true]
      have key : ∀ y, StepOk c (n + 1) (({ m with acts := x.acts } : MX).tell y) := fun y =>
        tell_ok (m := { m with acts := x.acts }) ((h.more (Nat.le_succ n)).same rfl rfl (Nat.le_succ_of_le h.on)) ⟨Nat.le_succ_of_le hxo.few, fun a ha' => (hxo.kont hk a ha').1⟩ (fun a ha' => (hxo.kont hk a ha').2) y
      split
      · exact key _
      · exact .of_end ((h.more (Nat.le_succ n)).same rfl rfl (Nat.le_succ_of_le h.on)) (.inl e91)
    | false =>
      simp only [Bool.false_eq_true, if_false]
      split
      · exact .of_end ((h.more (Nat.le_succ n)).same rfl rfl (Nat.le_succ_of_le h.on)) (.inl e91)
      · obtain ⟨hp, _⟩ := hxo.fn hk
        obtain ⟨hp1, _⟩ := prcAt_mem hp.1 hp.2
        have gp := g.prc hp1
        have hin : ∀ a ∈ (if behind then m.acts else m.acts.dropLast), a ∈ m.acts := fun a ha' => by
          cases behind with
          | true => exact ha'
          | false => exact dropLast_mem ha'
        have hlen : (if behind then m.acts else m.acts.dropLast).length ≤ n := by
          have := ha.an
          cases behind with
          | true => exact this
          | false => simp; omega
        refine .of_run ⟨(h.more (Nat.le_succ n)).same rfl rfl (Nat.le_succ_of_le h.on), ⟨?_, ?_⟩, by simp, ?_⟩
        · show (_ ++ [_]).length ≤ n + 1
          simp only [List.length_append, List.length_cons, List.length_nil]; omega
        · intro a ha'
          rcases List.mem_append.1 (show a ∈ _ ++ [_] from ha') with ha' | ha'
          · exact ha.acts a (hin a ha')
          · rw [List.mem_singleton.1 ha']
            refine ⟨hp, newAct_regs _ _ _ _ (by have := gp.params; have := gp.regs; omega), by show (0 : Int) ≤ (k : Int); omega, ⟨x, by show m.clos[((k : Int)).toNat]? = _; rw [Int.toNat_natCast]; exact hx, hk, rfl⟩, ⟨by show (0 : Int) ≤ 0; omega, by show (0 : Int) < _; have := gp.blocks.1; exact Int.ofNat_lt.2 this⟩, by show (0 : Int) ≤ 0; omega, by show (0 : Int) ≤ _; omega⟩
        · intro a ha'
          have : a ∈ (if behind then m.acts else m.acts.dropLast) := by
            have h2 : a ∈ ((if behind then m.acts else m.acts.dropLast) ++ [newAct (prcAt c x.proc) x.proc k args]).dropLast := ha'
            simpa using h2
          exact hw a this
/-- a register of the one that runs filled -/
theorem put_ok (h : RunOk c n m) (r : Int) (v : VX) : RunOk c n (m.put r v) := by
  obtain ⟨ws, a, hs⟩ := snoc_of h.last
  have : m.put r v = { m with acts := ws ++ [{ a with regs := a.regs.set r.toNat v }] } := last_is hs _
  rw [this]
  refine ⟨h.core.same rfl rfl h.core.on, ⟨?_, ?_⟩, by simp, ?_⟩
  · have := h.acts.an; rw [hs] at this; simpa using this
  · intro b hb
    rcases List.mem_append.1 (show b ∈ ws ++ [_] from hb) with hb | hb
    · exact h.acts.acts b (by rw [hs]; exact List.mem_append_left _ hb)
    · rw [List.mem_singleton.1 hb]
      have h1 := h.acts.acts a (by rw [hs]; simp)
      exact ⟨h1.proc, by rw [← h1.regs]; simp, h1.clo0, h1.clo, h1.blk, h1.at_⟩
  · intro b hb
    have : b ∈ ws := by simpa using hb
    exact h.wait b (by rw [hs]; simpa using this)
/-- with other things than acts and closures -/
theorem RunOk.same {m' : MX} (h : RunOk c n m) (hc : CoreOk c n m') (h2 : m'.clos = m.clos) (h3 : m'.acts = m.acts) : RunOk c n m' :=
  ⟨hc, ⟨by rw [h3]; exact h.acts.an, by rw [h2, h3]; exact h.acts.acts⟩, by rw [h3]; exact h.last, by rw [h3]; exact h.wait⟩
theorem RunOk.grown {n' : Nat} {m' : MX} (h : RunOk c n m) (hn : n ≤ n') (hc : CoreOk c n' m') (h2 : CloLe m.clos m'.clos) (h3 : m'.acts = m.acts) : RunOk c n' m' :=
  ⟨hc, ⟨by rw [h3]; exact Nat.le_trans h.acts.an hn, by rw [h3]; exact fun a ha => (h.acts.acts a ha).mono h2⟩, by rw [h3]; exact h.last, by rw [h3]; exact h.wait⟩
/-- what a heap becomes -/
theorem CoreOk.heaps {m' : MX} (h : CoreOk c n m) (h1 : HeapOk m'.h) (h1' : m'.h.length ≤ n + 1) (h2 : m'.clos = m.clos) (h3 : m'.out.length ≤ n + 1) : CoreOk c (n + 1) m' := by
  refine ⟨h1, h1', by rw [h2]; exact Nat.le_succ_of_le h.cn, h3, ?_⟩
  rw [h2]; exact fun x hx => (h.clos x hx).mono (CloLe.refl _) (Nat.le_succ n)
theorem actX_len (h : HX) (s : List UInt8) (args : List VX) : (actX h s args).1.length ≤ h.length + 1 := by
  have a1 : ∀ k l, (addX h k l).1.length ≤ h.length + 1 := fun k l => by simp [addX]
  have a2 : ∀ op a b, (reckonedX h op a b).1.length ≤ h.length + 1 := fun op a b => by
    unfold reckonedX; simp only
    split
    · simp
    · split <;> simp
  have a3 : ∀ k i v, (filledX h k i v).1.length ≤ h.length + 1 := fun k i v => by
    unfold filledX
    split
    · simp
    · exact a1 _ _
  have a4 : ∀ v i x, (putX h v i x).1.length ≤ h.length + 1 := fun v i x => by
    unfold putX; simp only
    split
    · simp
    · simp
  have a5 : h.length ≤ h.length + 1 := Nat.le_succ _
  have key : ∀ (p : Prop) [Decidable p] (x y : HX × VX × Int), x.1.length ≤ h.length + 1 → y.1.length ≤ h.length + 1 → (if p then x else y).1.length ≤ h.length + 1 := fun p _ x y hx hy => by
    by_cases hp : p
    · rw [if_pos hp]; exact hx
    · rw [if_neg hp]; exact hy
  unfold actX
  simp only
  repeat' (first | exact a5 | exact a2 _ _ _ | exact a1 _ _ | exact a3 _ _ _ | exact a4 _ _ _ | apply key)
theorem doX_len (h : HX) (s : List UInt8) (args : List VX) : (doX h s args).1.length ≤ h.length + 1 := by
  unfold doX
  repeat' split
  all_goals first | exact actX_len _ _ _ | exact Nat.le_succ _
theorem prim_ok (h : CoreOk c n m) (s : List UInt8) (args : List VX) : CoreOk c (n + 1) (m.prim s args).1 ∧ (m.prim s args).1.clos = m.clos ∧ (m.prim s args).1.acts = m.acts ∧ (m.prim s args).1.done = m.done := by
  have h0 := h.more (Nat.le_succ n)
  have ho := h.on
  unfold MX.prim
  simp only
  split
  · split
    · exact ⟨h0, rfl, rfl, rfl⟩
    · exact ⟨h0.same rfl rfl (by show m.out.length ≤ n + 1; omega), rfl, rfl, rfl⟩
  split
  · split
    · exact ⟨h0.same rfl rfl (by show m.out.length ≤ n + 1; omega), rfl, rfl, rfl⟩
    split
    · exact ⟨h0.same rfl rfl (by show m.out.length ≤ n + 1; omega), rfl, rfl, rfl⟩
    · exact ⟨h0.same rfl rfl (by show (m.out ++ [_]).length ≤ n + 1; simp; omega), rfl, rfl, rfl⟩
  split
  · exact ⟨h0.same rfl rfl (by show m.out.length ≤ n + 1; omega), rfl, rfl, rfl⟩
  split
  · exact ⟨h0, rfl, rfl, rfl⟩
  split
  · exact ⟨h0.same rfl rfl (by show m.out.length ≤ n + 1; omega), rfl, rfl, rfl⟩
  · obtain ⟨g1, g2, _⟩ := doX_ok h.heap s args
    have g3 := doX_len m.h s args
    have := h.hn
    exact ⟨h.heaps g1 (by show (doX m.h s args).1.length ≤ n + 1; omega) rfl (by show m.out.length ≤ n + 1; omega), rfl, rfl, rfl⟩
end
end Go.Proofs.Ytcfgpbmcgmkmhaa.Vc
/-
  CODE RUN: what stands is kept by each step. No program in sight.
-/
namespace Go.Proofs.Ytcfgpbmcgmkmhaa.Vc
open Go

section
variable {K : Dat → VX} {c : CodeX} {n : Nat} {m : MX}
theorem told_ok (h : CoreOk c (n + 1) m) (hr : m.e = 0 → RunOk c (n + 1) m) (r : Int) (v : VX) : StepOk c (n + 1) (if m.e = 0 then m.put r v else m) := by
  split
  · rename_i he
    exact .of_run (put_ok (hr he) r v)
  · rename_i he
    exact .of_end h (.inl he)
theorem last_of {ws : List ActX} {a : ActX} (hs : m.acts = ws ++ [a]) : m.acts.getLast?.getD default = a := by rw [hs, last_snoc]; rfl
theorem ins_ok (g : GoodC c) (h : RunOk c n m) (he : m.e = 0) (hd : m.done = false) {ws : List ActX} {a : ActX} (hs : m.acts = ws ++ [a]) {x : InsX} (hx : InsGood c (prcAt c a.proc) x) : StepOk c (n + 1) (m.ins K x) := by
  have h1 := h.more (Nat.le_succ n)
  have hla := last_of hs
  have e80 : (80 : Int) ≠ 0 := by decide
  unfold MX.ins
  simp only [hla]
  split
  · first | exact told_ok (m := m) h1.core (fun _ => h1) _ _ | exact .of_run (put_ok h1 _ _)
  split
  · first | exact told_ok (m := m) h1.core (fun _ => h1) _ _ | exact .of_run (put_ok h1 _ _)
  split
  · first | exact told_ok (m := m) h1.core (fun _ => h1) _ _ | exact .of_run (put_ok h1 _ _)
  split
  · rename_i e
    obtain ⟨c1, c2, c3⟩ := hx.closure e
    have hmade := made_ok h.core (x := ⟨0, x.num, x.args.map (regAt a), false, []⟩) fun i => ⟨fun hk => (by cases hk), fun _ => ⟨⟨by show 0 ≤ x.num; omega, c2⟩, by show ((x.args.map (regAt a)).length : Int) = _; rw [List.length_map]; exact c3⟩, Nat.zero_le _⟩
    exact told_ok (m := (m.made ⟨0, x.num, x.args.map (regAt a), false, []⟩).1) hmade.1 (fun _ => h.grown (Nat.le_succ n) hmade.1 hmade.2 rfl) _ _
  split
  · split
    · exact .of_end (h1.core.same rfl rfl (by have := h.core.on; show m.out.length ≤ n + 1; omega)) (.inl e80)
    · rename_i k hk
      obtain ⟨y, hy⟩ := find_some hk
      have hgd : m.clos.getD k default = y := by rw [List.getD_eq_getElem?_getD, hy]; rfl
      simp only [hgd]
      split
      · exact .of_end (h1.core.same rfl rfl (by have := h.core.on; show m.out.length ≤ n + 1; omega)) (.inl e80)
      · have hle : CloLe m.clos (m.clos.set k { y with held := y.held.set x.num.toNat ((x.args.map (regAt a)).getD 1 vNone) }) :=
          CloLe.set fun z hz => by rw [hy] at hz; cases hz; exact ⟨rfl, rfl⟩
        have hco : CoreOk c (n + 1) { m with clos := m.clos.set k { y with held := y.held.set x.num.toNat ((x.args.map (regAt a)).getD 1 vNone) } } := by
          refine ⟨h1.core.heap, h1.core.hn, by show (m.clos.set k _).length ≤ n + 1; rw [List.length_set]; exact h1.core.cn, h1.core.on, fun z hz => ?_⟩
          rcases List.mem_or_eq_of_mem_set (show z ∈ m.clos.set k _ from hz) with hz | rfl
          · exact (h1.core.clos z hz).mono hle (Nat.le_refl _)
          · have hyo := h1.core.clos y (List.mem_of_getElem? hy)
            refine ⟨fun hk' b hb => ⟨(hyo.kont hk' b hb).1.mono hle, (hyo.kont hk' b hb).2⟩, fun hk' => ⟨(hyo.fn hk').1, ?_⟩, hyo.few⟩
            show ((y.held.set _ _).length : Int) = _
            rw [List.length_set]; exact (hyo.fn hk').2
        exact .of_run (h.grown (Nat.le_succ n) hco hle rfl)
  · obtain ⟨p1, p2, p3, p4⟩ := prim_ok h.core x.op (x.args.map (regAt a))
    exact told_ok (m := (m.prim x.op (x.args.map (regAt a))).1) p1 (fun _ => h.grown (Nat.le_succ n) p1 (by rw [p2]; exact CloLe.refl _) p3) _ _
theorem fin_ok (g : GoodC c) (h : RunOk c n m) {ws : List ActX} {a : ActX} (hs : m.acts = ws ++ [a]) {e : EndX} (hx : FinGood (prcAt c a.proc) e) : StepOk c (n + 2) (m.fin c e) := by
  have hla := last_of hs
  have hao := h.acts.acts a (by rw [hs]; simp)
  obtain ⟨hpm, _⟩ := prcAt_mem hao.proc.1 hao.proc.2
  have hpos := (g.prc hpm).blocks.1
  unfold MX.fin
  simp only [hla]
  rw [last_is hs]
  have key : ∀ v : VX, ∀ B : Int, B = (if e.kind = 1 ∧ v = vNone then e.els else e.next) → StepOk c (n + 2)
      (let m1 : MX := { m with acts := ws ++ [{ a with at_ := 0, block := B, to := e.to }] }
      if e.kind = 2 then ({ m1 with acts := m1.acts.dropLast } : MX).tell v
      else if e.kind = 3 then m1.call c v (e.args.map (regAt a)) false
      else if e.kind = 4 then m1.call c v (e.args.map (regAt a)) true
      else if e.kind = 5 then
        let r := m1.made ⟨0, 0, [], true, m1.acts.dropLast⟩
        r.1.call c v [r.2] false
      else if e.kind = 6 then
        let r := m1.made ⟨0, 0, [], true, m1.acts⟩
        r.1.call c v [r.2] true
      else m1) := by
    intro v B hB
    have hBr : 0 ≤ B ∧ B < (prcAt c a.proc).blocks.length := by
      rw [hB]
      split
      · rename_i hk
        exact hx.els hk.1
      · have := hx.nextA; omega
    have hc1 : CoreOk c n { m with acts := ws ++ [{ a with at_ := 0, block := B, to := e.to }] } := h.core.same rfl rfl h.core.on
    have hao' : ActOk c m.clos { a with at_ := 0, block := B, to := e.to } := ⟨hao.proc, hao.regs, hao.clo0, hao.clo, hBr, by show (0 : Int) ≤ 0; omega, by show (0 : Int) ≤ _; omega⟩
    have ha1 : ActsOk c n { m with acts := ws ++ [{ a with at_ := 0, block := B, to := e.to }] } := by
      refine ⟨by have := h.acts.an; rw [hs] at this; simpa using this, fun b hb => ?_⟩
      rcases List.mem_append.1 (show b ∈ ws ++ [_] from hb) with hb | hb
      · exact h.acts.acts b (by rw [hs]; exact List.mem_append_left _ hb)
      · rw [List.mem_singleton.1 hb]; exact hao'
    have hws : ∀ b ∈ ws, WaitOk b := fun b hb => h.wait b (by rw [hs]; simpa using hb)
    have hdl : ({ m with acts := ws ++ [{ a with at_ := 0, block := B, to := e.to }] } : MX).acts.dropLast = ws := by simp
    have hall : e.kind = 4 ∨ e.kind = 6 → ∀ b ∈ ({ m with acts := ws ++ [{ a with at_ := 0, block := B, to := e.to }] } : MX).acts, WaitOk b := fun hk b hb => by
      rcases List.mem_append.1 (show b ∈ ws ++ [_] from hb) with hb | hb
      · exact hws b hb
      · rw [List.mem_singleton.1 hb]
        have := hx.to hk
        refine ⟨this.1, ?_⟩
        show e.to < (a.regs.length : Int)
        rw [hao.regs]; exact this.2
    simp only
    split
    · refine StepOk_more (n := n) (n' := n + 2) (tell_ok (m := { m with acts := ({ m with acts := ws ++ [{ a with at_ := 0, block := B, to := e.to }] } : MX).acts.dropLast }) (h.core.same rfl rfl h.core.on) ⟨?_, fun b hb => ?_⟩ (fun b hb => ?_) v) (by omega)
      · have := ha1.an; simp at this ⊢; omega
      · exact ha1.acts b (dropLast_mem hb)
      · exact hws b (by rw [← hdl]; exact hb)
    split
    · exact StepOk_more (call_ok g hc1 ha1 v _ false (by rw [if_neg (by simp), hdl]; exact hws)) (by omega)
    split
    · rename_i hk
      exact StepOk_more (call_ok g hc1 ha1 v _ true (by rw [if_pos rfl]; exact hall (.inl hk))) (by omega)
    split
    · obtain ⟨k1, k2⟩ := made_ok hc1 (x := ⟨0, 0, [], true, ws⟩) fun i => ⟨fun _ b hb => ⟨(h.acts.acts b (by rw [hs]; exact List.mem_append_left _ hb)).mono (CloLe.add _ _), hws b hb⟩, fun hk => (by cases hk), by have := h.acts.an; rw [hs] at this; simp at this; show ws.length ≤ n + 1; omega⟩
      rw [hdl]
      refine call_ok g k1 ⟨Nat.le_succ_of_le ha1.an, fun b hb => (ha1.acts b hb).mono k2⟩ v _ false ?_
      rw [if_neg (by simp)]
      intro b hb
      have : b ∈ ws := by rw [← hdl]; exact hb
      exact hws b this
    split
    · rename_i hk
      obtain ⟨k1, k2⟩ := made_ok hc1 (x := ⟨0, 0, [], true, ws ++ [{ a with at_ := 0, block := B, to := e.to }]⟩) fun i => ⟨fun _ b hb => ⟨(ha1.acts b hb).mono (CloLe.add _ _), hall (.inr hk) b hb⟩, fun hk => (by cases hk), Nat.le_succ_of_le ha1.an⟩
      refine call_ok g k1 ⟨Nat.le_succ_of_le ha1.an, fun b hb => (ha1.acts b hb).mono k2⟩ v _ true ?_
      rw [if_pos rfl]
      exact fun b hb => hall (.inr hk) b hb
    · exact .of_run ⟨hc1.more (by omega), ha1.more (by omega), by simp, by rw [hdl]; exact hws⟩
  generalize (if e.kind = 0 then vNone else regAt a e.reg) = v
  exact key v _ rfl
where
  StepOk_more {c : CodeX} {n n' : Nat} {m : MX} (h : StepOk c n m) (hn : n ≤ n') : StepOk c n' m := ⟨h.1.more hn, fun a b => (h.2 a b).more hn⟩
theorem step_ok (g : GoodC c) (h : RunOk c n m) (he : m.e = 0) (hd : m.done = false) : StepOk c (n + 2) (m.step K c) := by
  obtain ⟨ws, a, hs⟩ := snoc_of h.last
  have hla := last_of hs
  have hao := h.acts.acts a (by rw [hs]; simp)
  obtain ⟨hpm, _⟩ := prcAt_mem hao.proc.1 hao.proc.2
  have gp := g.prc hpm
  obtain ⟨hbm, _⟩ := blkAt_mem hao.blk.1 hao.blk.2
  unfold MX.step
  simp only [hla]
  split
  · rename_i x hx
    have hlt := (List.getElem?_eq_some_iff.1 hx).1
    rw [last_is hs]
    have hr : RunOk c n { m with acts := ws ++ [{ a with at_ := a.at_ + 1 }] } := by
      refine ⟨h.core.same rfl rfl h.core.on, ⟨by have := h.acts.an; rw [hs] at this; simpa using this, fun b hb => ?_⟩, by simp, fun b hb => ?_⟩
      · rcases List.mem_append.1 (show b ∈ ws ++ [_] from hb) with hb | hb
        · exact h.acts.acts b (by rw [hs]; exact List.mem_append_left _ hb)
        · rw [List.mem_singleton.1 hb]
          have := hao.at_
          exact ⟨hao.proc, hao.regs, hao.clo0, hao.clo, hao.blk, by show 0 ≤ a.at_ + 1; omega, by show a.at_ + 1 ≤ (((blkAt (prcAt c a.proc) a.block).ins.length : Nat) : Int); omega⟩
      · have : b ∈ ws := by simpa using hb
        exact h.wait b (by rw [hs]; simpa using this)
    have := ins_ok (K := K) g hr he hd rfl (insOk_good ((gp.ins _ hbm).2 x (List.mem_of_getElem? hx)))
    exact ⟨this.1.more (by omega), fun p q => (this.2 p q).more (by omega)⟩
  · exact fin_ok g h hs (finOk_good (gp.fin _ hbm))
/-- at the beginning -/
theorem first_ok (g : GoodC c) (input : List UInt8) : StepOk c 2 (MX.first c input) := by
  have h0 : CoreOk c 0 (⟨[], [], [], input, [], ⟨4, 0, []⟩, vNone, false, 0⟩ : MX) := by
    refine ⟨⟨?_, ?_, ?_, ?_, ?_, ?_⟩, Nat.le_refl _, Nat.le_refl _, Nat.le_refl _, ?_⟩ <;> intro t ht <;> cases ht
  obtain ⟨p, l, hc, hp, hh⟩ := g.first
  obtain ⟨k1, k2⟩ := made_ok h0 (x := ⟨0, 0, [], false, []⟩) fun i => ⟨fun hk => (by cases hk), fun _ => ⟨⟨by show (0 : Int) ≤ 0; omega, by show (0 : Int) < _; rw [hc, List.length_cons]; omega⟩, by
    show (0 : Int) = (prcAt c 0).holds
    rw [hc]
    show (0 : Int) = p.holds
    exact hh.symm⟩, Nat.zero_le _⟩
  have hno : ∀ a, a ∉ (MX.made (⟨[], [], [], input, [], ⟨4, 0, []⟩, vNone, false, 0⟩ : MX) ⟨0, 0, [], false, []⟩).1.acts := fun a ha => by
    have : a ∈ ([] : List ActX) := ha
    cases this
  have := call_ok g k1 ⟨Nat.zero_le _, fun a ha => absurd ha (hno a)⟩ (MX.made (⟨[], [], [], input, [], ⟨4, 0, []⟩, vNone, false, 0⟩ : MX) ⟨0, 0, [], false, []⟩).2 [] true (by
    rw [if_pos rfl]
    exact fun a ha => absurd ha (hno a))
  exact this
end
end Go.Proofs.Ytcfgpbmcgmkmhaa.Vc
/-
  WORDS: the document's reckoning with numbers.
-/
namespace Go.Proofs.Ytcfgpbmcgmkmhaa.Vc
open Go

abbrev valVs (v : VX) : List Value := [.int .i64 v.kind, .int .i64 v.int, txt v.text]
abbrev valV (v : VX) : Value := .agg (valVs v).toArray
theorem isNum_iff {n : Int} : isNum n = true ↔ -1152921504606846976 ≤ n ∧ n ≤ 1152921504606846975 := by unfold isNum; rw [decide_eq_true_eq]
theorem Is_gives (n : Int) (H : PH) : Gives Try.prog n_scrimshawref01_Is [.int .i64 n] H (.bool (isNum n)) := by
  refine tri_scrimshawref01_Is [.int .i64 n] (by kernel_rfl) (by kernel_rfl) ?_
  refine ⟨?_, PH.le_refl _⟩
  simp only [evs, evb, isNum, Bool.decide_and, ge_iff_le]
theorem tm8 (n : Int) : (8 * n).tmod 8 = 0 := by rw [Int.mul_tmod_right]
theorem td8 (n : Int) : (8 * n).tdiv 8 = n := by rw [Int.mul_tdiv_cancel_left _ (by decide)]
theorem Tag8_gives (n : Int) (hn : isNum n = true) (H : PH) : Gives Try.prog n_scrimshawref01_Tag [.int .i64 (8 * n)] H (.int .i64 0) := by
  have h := isNum_iff.1 hn
  refine tri_scrimshawref01_Tag [.int .i64 (8 * n)] (by kernel_rfl) (by kernel_rfl) ?_
  refine ⟨?_, PH.le_refl _⟩
  have h0 : IntKind.i64.wrap ((8 * n).tmod 8) = 0 := by rw [tm8]; rfl
  simp [evs, evb, h0]
theorem Value8_gives (n : Int) (hn : isNum n = true) (H : PH) : Gives Try.prog n_scrimshawref01_Value [.int .i64 (8 * n)] H (.int .i64 n) := by
  have h := isNum_iff.1 hn
  refine tri_scrimshawref01_Value [.int .i64 (8 * n)] (by kernel_rfl) (by kernel_rfl) ?_
  refine ⟨?_, PH.le_refl _⟩
  have h0 : IntKind.i64.wrap ((8 * n).tmod 8) = 0 := by rw [tm8]; rfl
  have h1 : IntKind.i64.wrap ((8 * n).tdiv 8) = n := by rw [td8]; exact w64 (by omega) (by omega)
  have h2 : IntKind.i64.wrap n = n := w64 (by omega) (by omega)
  simp [evs, evb, h0, h1, h2]
theorem Times_tri (a b : Int) (ha : isNum a = true) (hb : isNum b = true) (H : PH) : Tri Try.prog n_scrimshawref01_Times #[.int .i64 a, .int .i64 b] H fun x H' => PH.le H H' ∧ ∃ n ok, x = .returned (.tuple #[.int .i64 n, .bool ok]) ∧ InI n ∧ ((ok = true ∧ n = a * b ∧ isNum (a * b) = true) ∨ ((ok = false ∨ isNum n = false) ∧ isNum (a * b) = false)) := by
  have h1 := isNum_iff.1 ha
  have h2 := isNum_iff.1 hb
  refine tri_scrimshawref01_Times [.int .i64 a, .int .i64 b] (by kernel_rfl) (by kernel_rfl) ?_
  refine ⟨fun g => ?_, fun g => ⟨fun g2 => ?_, fun g2 => ?_⟩⟩
  · simp only [evs, evb] at g
    simp only [Bool.or_eq_true, decide_eq_true_eq] at g
    refine ⟨PH.le_refl _, 0, true, rfl, by unfold InI; omega, .inl ⟨rfl, ?_, ?_⟩⟩
    · rcases g with rfl | rfl <;> simp
    · rcases g with rfl | rfl <;> simp [isNum]
  · simp only [evs, evb] at g2
    simp only [Bool.or_eq_true, decide_eq_true_eq] at g2
    have hn : ∃ n : Int, n = a * b ∧ -1152921504606846975 ≤ n ∧ n ≤ 1152921504606846976 ∧ (if a = -1 then 0 - b else 0 - a) = n := by
      by_cases e : a = -1
      · subst e; exact ⟨-b, by omega, by omega, by omega, by rw [if_pos rfl]; omega⟩
      · have e2 : b = -1 := by rcases g2 with h | h
                               · exact absurd h e
                               · exact h
        subst e2
        exact ⟨-a, by omega, by omega, by omega, by rw [if_neg e]; omega⟩
    obtain ⟨n, hn1, hn2, hn3, hn4⟩ := hn
    refine ⟨PH.le_refl _, n, decide (n ≤ 1152921504606846975), ?_, by unfold InI; omega, ?_⟩
    · rw [← hn4]
      by_cases e : a = -1
      · simp only [if_pos e] at hn4 ⊢
        have hw : IntKind.i64.wrap (-b) = -b := w64 (by omega) (by omega)
        simp [partV, evs, evb, e, hw]
      · simp only [if_neg e] at hn4 ⊢
        have hw : IntKind.i64.wrap (-a) = -a := w64 (by omega) (by omega)
        simp [partV, evs, evb, e, hw]
    · by_cases hm : n ≤ 1152921504606846975
      · exact .inl ⟨decide_eq_true hm, hn1, by rw [← hn1, isNum_iff]; omega⟩
      · refine .inr ⟨.inl (decide_eq_false hm), ?_⟩
        cases hh : isNum (a * b) with
        | false => rfl
        | true => rw [← hn1, isNum_iff] at hh; omega
  · simp only [evs, evb] at g g2
    simp only [Bool.or_eq_false_iff, decide_eq_false_iff_not] at g g2
    have hb0 : b ≠ 0 := g.2
    refine ⟨fun _ => ?_, fun _ => ?_, ?_⟩
    · simp only [Chk.holds, evs, evb]; exact hb0
    · simp only [Chk.holds, evs, evb]; exact hb0
    obtain ⟨q1, q2, hq1, hq2, hm⟩ : ∃ q1 q2 : Int, (if b < 0 then (-1152921504606846976 : Int).tdiv b else (1152921504606846975 : Int).tdiv b) = q1 ∧ (if b < 0 then (1152921504606846975 : Int).tdiv b else (-1152921504606846976 : Int).tdiv b) = q2 ∧ (isNum (a * b) = true ↔ ¬ (q1 < a ∨ a < q2)) := by
      refine ⟨_, _, rfl, rfl, ?_⟩
      rw [isNum_iff]
      by_cases hneg : b < 0
      · rw [if_pos hneg, if_pos hneg]
        obtain ⟨c, rfl⟩ : ∃ c, b = -c := ⟨-b, by omega⟩
        have hc : 0 < c := by omega
        have k1 := times_le (M := 1152921504606846976) (a := a) (by decide) hc
        have k2 := times_le (M := 1152921504606846975) (a := -a) (by decide) hc
        have e1 : (-1152921504606846976 : Int).tdiv (-c) = (1152921504606846976 : Int).tdiv c := by
          rw [show (-1152921504606846976 : Int) = -(1152921504606846976 : Int) from rfl, Int.neg_tdiv_neg]
        have e2 : (1152921504606846975 : Int).tdiv (-c) = -((1152921504606846975 : Int).tdiv c) := Int.tdiv_neg ..
        rw [e1, e2]
        rw [Int.neg_mul] at k2
        rw [Int.mul_neg]
        omega
      · rw [if_neg hneg, if_neg hneg]
        have hc : 0 < b := by omega
        have k1 := times_le (M := 1152921504606846976) (a := -a) (by decide) hc
        have k2 := times_le (M := 1152921504606846975) (a := a) (by decide) hc
        have e1 : (-1152921504606846976 : Int).tdiv b = -((1152921504606846976 : Int).tdiv b) := by
          rw [show (-1152921504606846976 : Int) = -(1152921504606846976 : Int) from rfl, Int.neg_tdiv]
        rw [e1]
        rw [Int.neg_mul] at k1
        omega
    have hr1 : IntKind.i64.wrap ((-1152921504606846976 : Int).tdiv b) = (-1152921504606846976 : Int).tdiv b := by
      have := tdiv_small (-1152921504606846976) b (by decide)
      exact w64 (by omega) (by omega)
    have hr2 : IntKind.i64.wrap ((1152921504606846975 : Int).tdiv b) = (1152921504606846975 : Int).tdiv b := by
      have := tdiv_small 1152921504606846975 b (by decide)
      exact w64 (by omega) (by omega)
    refine ⟨fun g3 => ?_, fun g3 => ?_⟩
    · refine ⟨PH.le_refl _, 0, false, rfl, by unfold InI; omega, .inr ⟨.inl rfl, ?_⟩⟩
      cases hh : isNum (a * b) with
      | false => rfl
      | true =>
        exfalso
        have := hm.1 hh
        simp only [ev0, ev, evV, List.cons_append, List.nil_append, List.getD_cons_zero, List.getD_cons_succ, List.map_cons, List.map_nil, iOf, bOf, sOf, pOf, slLen, slBase, cmpI, arI, Value.ite_bool, int_beq, int_bne, ite_band, ite_bor, hr1, hr2] at g3
        by_cases hneg : b < 0 <;> simp only [hneg, decide_true, decide_false, if_true, if_false, Bool.or_eq_true, decide_eq_true_eq, Bool.false_eq_true] at g3 hq1 hq2 <;> omega
    · have hh : isNum (a * b) = true := by
        rw [hm]
        simp only [ev0, ev, evV, List.cons_append, List.nil_append, List.getD_cons_zero, List.getD_cons_succ, List.map_cons, List.map_nil, iOf, bOf, sOf, pOf, slLen, slBase, cmpI, arI, Value.ite_bool, int_beq, int_bne, ite_band, ite_bor, hr1, hr2] at g3
        by_cases hneg : b < 0 <;> simp only [hneg, decide_true, decide_false, if_true, if_false, Bool.or_eq_false_iff, decide_eq_false_iff_not, Bool.false_eq_true] at g3 hq1 hq2 <;> omega
      have hh2 := isNum_iff.1 hh
      refine ⟨PH.le_refl _, a * b, true, ?_, by unfold InI; omega, .inl ⟨rfl, rfl, hh⟩⟩
      have hw : IntKind.i64.wrap (a * b) = a * b := w64 (by omega) (by omega)
      simp [partV, evs, evb, hw]
where
  times_le {M a c : Int} (hM : 0 ≤ M) (hc : 0 < c) : a ≤ M.tdiv c ↔ a * c ≤ M := by
    rw [Int.tdiv_eq_ediv_of_nonneg hM]; exact Int.le_ediv_iff_mul_le hc
  tdiv_small (M b : Int) (hM : -1152921504606846976 ≤ M ∧ M ≤ 1152921504606846976) : -1152921504606846976 ≤ M.tdiv b ∧ M.tdiv b ≤ 1152921504606846976 := by
    have h1 : (M.tdiv b).natAbs ≤ M.natAbs := by
      rw [Int.natAbs_tdiv]; exact Nat.div_le_self ..
    omega
def toldX (n : Int) : VX × Int := if isNum n then (vNum n, 0) else (⟨0, 0, []⟩, 1)
theorem Reckon_tri (op : Nat) (hop : op ≤ 4) (a b : Int) (ha : isNum a = true) (hb : isNum b = true) (H : PH) : Tri Try.prog n_scrimshawref01_Reckon #[.int .i64 (op : Int), .int .i64 (8 * a), .int .i64 (8 * b)] H fun x H' => PH.le H H' ∧ ∃ w e : Int, x = .returned (.tuple #[.int .i64 w, .int .i64 e]) ∧ ((∃ n, e = 0 ∧ w = 8 * n ∧ isNum n = true ∧ reckonX op a b = (vNum n, 0)) ∨ (e = 10 ∧ (reckonX op a b).2 = 1) ∨ (e = 11 ∧ (reckonX op a b).2 = 2)) := by
  have h1 := isNum_iff.1 ha
  have h2 := isNum_iff.1 hb
  refine tri_scrimshawref01_Reckon [.int .i64 (op : Int), .int .i64 (8 * a), .int .i64 (8 * b)] (by kernel_rfl) (by kernel_rfl) ?_
  refine ⟨fun g => ?_, fun g => ?_⟩
  · exfalso
    simp only [evs, evb] at g
    simp only [Bool.or_eq_true, decide_eq_true_eq] at g
    omega
  refine ⟨fun vs K => vs = [.bool false] ∧ PH.le H K, ?_, ?_⟩
  rotate_left
  · refine den_gives [.int .i64 0] cb_scrimshawref01_Tag (Tag8_gives a ha H) rfl pendNil fun K1 l1 => ⟨fun g2 => ?_, fun g2 => ?_⟩
    · simp [evs, evb] at g2
    refine den_gives [.int .i64 0] cb_scrimshawref01_Tag (Tag8_gives b hb K1) rfl pendNil fun K2 l2 => ⟨_, lookup_hit, ?_, PH.le_trans l1 l2⟩
    simp [evs, evb]
  rintro vs K _ ⟨rfl, l0⟩
  refine ⟨fun g2 => ?_, fun g2 => ?_⟩
  · simp [evs, evb] at g2
  refine den_gives [.int .i64 a] cb_scrimshawref01_Value (Value8_gives a ha K) rfl pendNil fun K1 l1 => ?_
  refine den_gives [.int .i64 b] cb_scrimshawref01_Value (Value8_gives b hb K1) rfl pendNil fun K2 l2 => ?_
  simp only [cns]
  have l02 := PH.le_trans l0 (PH.le_trans l1 l2)
  refine ⟨fun vs K => PH.le H K ∧ ∃ n ok, vs = [.int .i64 n, .bool ok] ∧ InI n ∧ ((ok = true ∧ reckonX op a b = toldX n) ∨ ((ok = false ∨ isNum n = false) ∧ (reckonX op a b).2 = 1)), ?_, fun g3 => ?_, fun g3 => ⟨fun g4 => ?_, fun g4 => ⟨fun g5 => ?_, fun g5 => ⟨fun g6 => ?_, fun g6 => ?_⟩⟩⟩⟩
  · rintro vs K3 _ ⟨l3, n, ok, rfl, hn, hr⟩
    refine ⟨fun g3 => ?_, fun g3 => ?_⟩
    · simp only [evs, evb] at g3
      simp only [Bool.or_eq_true, decide_eq_true_eq, Bool.not_eq_true'] at g3
      refine ⟨l3, 0, 10, rfl, .inr (.inl ⟨rfl, ?_⟩)⟩
      rcases hr with ⟨rfl, hr⟩ | ⟨_, hr⟩
      · have : isNum n = false := by
          cases hh : isNum n with
          | false => rfl
          | true => rw [isNum_iff] at hh; simp at g3; omega
        rw [hr]; unfold toldX; rw [this]; rfl
      · exact hr
    · simp only [evs, evb] at g3
      simp only [Bool.or_eq_false_iff, decide_eq_false_iff_not, Bool.not_eq_false'] at g3
      obtain ⟨⟨rfl, g4⟩, g5⟩ := g3
      have hnn : isNum n = true := by rw [isNum_iff]; omega
      refine ⟨l3, 8 * n, 0, ?_, .inl ⟨n, rfl, rfl, hnn, ?_⟩⟩
      · have hw : IntKind.i64.wrap (8 * n) = 8 * n := w64 (by omega) (by omega)
        simp [partV, evs, evb, hw]
      · rcases hr with ⟨_, hr⟩ | ⟨h | h, _⟩
        · rw [hr]; unfold toldX; rw [hnn]; rfl
        · cases h
        · rw [hnn] at h; cases h
  · simp only [evs, evb, decide_eq_true_eq] at g3
    obtain rfl : op = 0 := by omega
    have hw : IntKind.i64.wrap (a + b) = a + b := w64 (by omega) (by omega)
    refine ⟨_, lookup_hit, l02, a + b, true, ?_, by unfold InI; omega, .inl ⟨rfl, rfl⟩⟩
    simp [evs, evb, hw]
  · simp only [evs, evb, decide_eq_true_eq] at g4
    obtain rfl : op = 1 := by omega
    have hw : IntKind.i64.wrap (a - b) = a - b := w64 (by omega) (by omega)
    refine ⟨_, lookup_hit, l02, a - b, true, ?_, by unfold InI; omega, .inl ⟨rfl, rfl⟩⟩
    simp [evs, evb, hw]
  · simp only [evs, evb, decide_eq_true_eq] at g5
    obtain rfl : op = 2 := by omega
    refine den_call cb_scrimshawref01_Times (Times_tri a b ha hb K2) ?_
    rintro x K3 ⟨l3, n, ok, rfl, hin, hr⟩
    refine ⟨_, [.int .i64 n, .bool ok], rfl, rfl, rfl, pendNil, _, lookup_hit, PH.le_trans l02 l3, n, ok, by simp [evs, evb], hin, ?_⟩
    · have hrd : reckonX 2 a b = toldX (a * b) := rfl
      rcases hr with ⟨h3, rfl, h4⟩ | ⟨h3, h4⟩
      · exact .inl ⟨h3, hrd⟩
      · refine .inr ⟨h3, ?_⟩
        rw [hrd]; unfold toldX; rw [h4]; rfl
  · simp only [evs, evb, decide_eq_true_eq] at g6
    subst g6
    simp only [evs, evb, decide_eq_false_iff_not] at g3 g4 g5
    refine ⟨l02, 0, 11, rfl, .inr (.inr ⟨rfl, ?_⟩)⟩
    match op, hop, g3, g4, g5 with
    | 3, _, _, _, _ => simp [reckonX]
    | 4, _, _, _, _ => simp [reckonX]
  · simp only [evs, evb, decide_eq_false_iff_not] at g3 g4 g5 g6
    have hq := tdiv_small a b (by omega)
    have hw1 : IntKind.i64.wrap (a.tdiv b) = a.tdiv b := w64 (by omega) (by omega)
    have hm : a.tmod b = a - b * a.tdiv b := Int.tmod_def ..
    have hml : -1152921504606846976 ≤ a.tmod b ∧ a.tmod b ≤ 1152921504606846976 := tmod_small a b (by omega)
    have hw2 : IntKind.i64.wrap (a.tdiv b * b) = a.tdiv b * b := by
      rw [Int.mul_comm]; exact w64 (by omega) (by omega)
    have hw3 : IntKind.i64.wrap (a - a.tdiv b * b) = a.tmod b := by
      rw [Int.mul_comm, ← hm]; exact w64 (by omega) (by omega)
    refine ⟨fun _ => ?_, ?_⟩
    · simp only [Chk.holds, evs, evb]; exact g6
    by_cases e4 : op = 4
    · subst e4
      refine ⟨_, lookup_hit, l02, a.tmod b, true, ?_, by unfold InI; omega, .inl ⟨rfl, ?_⟩⟩
      · simp [evs, evb, hw1, hw2, hw3]
      · simp [reckonX, g6, toldX]
    · obtain rfl : op = 3 := by omega
      refine ⟨_, lookup_hit, l02, a.tdiv b, true, ?_, by unfold InI; omega, .inl ⟨rfl, ?_⟩⟩
      · simp [evs, evb, hw1]
      · simp [reckonX, g6, toldX]
where
  tdiv_small (M b : Int) (hM : -1152921504606846976 ≤ M ∧ M ≤ 1152921504606846976) : -1152921504606846976 ≤ M.tdiv b ∧ M.tdiv b ≤ 1152921504606846976 := by
    have h1 : (M.tdiv b).natAbs ≤ M.natAbs := by
      rw [Int.natAbs_tdiv]; exact Nat.div_le_self ..
    omega
  tmod_small (M b : Int) (hM : -1152921504606846976 ≤ M ∧ M ≤ 1152921504606846976) : -1152921504606846976 ≤ M.tmod b ∧ M.tmod b ≤ 1152921504606846976 := by
    have h1 : (M.tmod b).natAbs ≤ M.natAbs := by
      rw [Int.natAbs_tmod]; exact Nat.mod_le ..
    omega
theorem truth_gives (b : Bool) (H : PH) : Gives Try.prog n_scrimshawref08_truth [.bool b] H (valV (vTruth b)) := by
  refine tri_scrimshawref08_truth [.bool b] (by kernel_rfl) (by kernel_rfl) ?_
  refine ⟨fun g => ?_, fun g => ?_⟩
  · simp only [evs, evb] at g
    subst g
    exact ⟨rfl, PH.le_refl _⟩
  · simp only [evs, evb] at g
    subst g
    exact ⟨rfl, PH.le_refl _⟩
theorem num_gives (n : Int) (H : PH) : Gives Try.prog n_scrimshawref08_num [.int .i64 n] H (valV (vNum n)) := by
  refine tri_scrimshawref08_num [.int .i64 n] (by kernel_rfl) (by kernel_rfl) ?_
  exact ⟨rfl, PH.le_refl _⟩
theorem reckoned_gives (op : Nat) (hop : op ≤ 4) (a b : VX) (h : HX) (ha : isNum a.int = true) (hb : isNum b.int = true) (H : PH) : Gives Try.prog n_scrimshawref08_reckoned [.int .i64 (op : Int), valV a, valV b] H (.tuple #[valV (reckonedX h op a b).2.1, .int .i64 (reckonedX h op a b).2.2]) := by
  have h1 := isNum_iff.1 ha
  have h2 := isNum_iff.1 hb
  have hw1 : IntKind.i64.wrap (8 * a.int) = 8 * a.int := w64 (by omega) (by omega)
  have hw2 : IntKind.i64.wrap (8 * b.int) = 8 * b.int := w64 (by omega) (by omega)
  refine tri_scrimshawref08_reckoned ([.int .i64 (op : Int)] ++ valVs a ++ valVs b) (by kernel_rfl) (by kernel_rfl) ?_
  simp only [cns]
  refine den_call cb_scrimshawref01_Reckon (by simp only [evs, evb, hw1, hw2]; exact Reckon_tri op hop a.int b.int ha hb H) ?_
  rintro x K1 ⟨l1, w, e, rfl, hr⟩
  refine ⟨_, [.int .i64 w, .int .i64 e], rfl, rfl, rfl, pendNil, fun g => ?_, fun g => ⟨fun g2 => ?_, fun g2 => ?_⟩⟩
  · simp only [evs, evb, decide_eq_true_eq] at g
    have hh : (reckonX op a.int b.int).2 = 1 := by
      rcases hr with ⟨n, h3, _⟩ | ⟨_, h4⟩ | ⟨h3, _⟩
      · omega
      · exact h4
      · omega
    refine ⟨?_, l1⟩
    unfold reckonedX
    simp only [hh, if_true]
    rfl
  · simp only [evs, evb, decide_eq_true_eq] at g2
    have hh : (reckonX op a.int b.int).2 = 2 := by
      rcases hr with ⟨n, h3, _⟩ | ⟨h3, _⟩ | ⟨_, h4⟩
      · omega
      · omega
      · exact h4
    refine ⟨?_, l1⟩
    have : reckonedX h op a b = (h, vNone, 82) := by unfold reckonedX; simp only [hh]; rfl
    rw [this]
    rfl
  · simp only [evs, evb, decide_eq_false_iff_not] at g g2
    rcases hr with ⟨n, rfl, rfl, hn, h4⟩ | ⟨h3, _⟩ | ⟨h3, _⟩
    · refine den_gives [.int .i64 n] cb_scrimshawref01_Value (Value8_gives n hn K1) rfl pendNil fun K2 l2 => ?_
      refine den_gives (valVs (vNum n)) cb_scrimshawref08_num (num_gives n K2) rfl pendNil fun K3 l3 => ⟨?_, PH.le_trans l1 (PH.le_trans l2 l3)⟩
      unfold reckonedX
      rw [h4]
      rfl
    · exact absurd h3 g
    · exact absurd h3 g2
end Go.Proofs.Ytcfgpbmcgmkmhaa.Vc
/-
  A ROW OF THINGS EACH OF WHICH HAS A ROW OF ITS OWN, in memory, written in place. No program in sight.
-/
namespace Go.Proofs.Ytcfgpbmcgmkmhaa.Vc
open Go

/-! ### one of many that are held -/
theorem permPick {α : Type} : ∀ {l : List α} {i : Nat} {x : α}, l[i]? = some x → (x :: l.eraseIdx i).Perm l
  | [], i, x, h => by simp at h
  | a :: l, 0, x, h => by simp at h; subst h; exact List.Perm.refl _
  | a :: l, i + 1, x, h => by
    have := permPick (l := l) (i := i) (x := x) (by simpa using h)
    exact (List.Perm.swap a x _).trans (this.cons a)
theorem permPut {α : Type} {x : α} : ∀ {l : List α} {i : Nat}, i < l.length → (x :: l.eraseIdx i).Perm (l.set i x)
  | [], i, h => by simp at h
  | a :: l, 0, h => by exact List.Perm.refl _
  | a :: l, i + 1, h => by
    have := permPut (x := x) (l := l) (i := i) (by simpa using h)
    exact (List.Perm.swap a x _).trans (this.cons a)

section
variable {α β : Type} [Enc α] [Enc β] {e1 e2 : TypeId} {sl : α → Value} {L : List (α × List β)} {v : Value} {S H : PH} {J : List Itm}
abbrev inner (e2 : TypeId) (sl : α → Value) (L : List (α × List β)) : List Itm := L.map fun x => orow e2 x.2 (sl x.1)
/-- the things, and behind them the row of each -/
def nest (e1 e2 : TypeId) (sl : α → Value) (L : List (α × List β)) (v : Value) : List Itm := orow e1 (L.map Prod.fst) v :: inner e2 sl L
theorem nest_eq : nest e1 e2 sl L v = orow e1 (L.map Prod.fst) v :: inner e2 sl L := rfl
theorem nest_open (h : Held S H (nest e1 e2 sl L v ++ J)) : Held S H (orow e1 (L.map Prod.fst) v :: (inner e2 sl L ++ J)) := h
theorem nest_row (h : Held S H (nest e1 e2 sl L v ++ J)) : Row S H e1 (L.map Prod.fst) v := h.row (List.mem_cons_self ..)
theorem nest_sl (h : Held S H (nest e1 e2 sl L v ++ J)) : ∃ b c, v = .slice b L.length c := by have := (nest_row h).sl; simpa using this
theorem nest_in_row (h : Held S H (nest e1 e2 sl L v ++ J)) {i : Nat} {x : α × List β} (hi : L[i]? = some x) : Row S H e2 x.2 (sl x.1) :=
  h.row (List.mem_append_left _ (List.mem_cons_of_mem _ (List.mem_map.2 ⟨x, List.mem_of_getElem? hi, rfl⟩)))
/-- what lies at a place -/
theorem nest_get (h : Held S H (nest e1 e2 sl L v ++ J)) {i : Nat} {x : α × List β} (hi : L[i]? = some x) :
    (slBase v).isSome = true ∧ (pOf (eltV v (i : Int) (sz α))).isSome = true ∧ ∃ cs, CsR S x.1 cs ∧ rowAt H (pOf (eltV v (i : Int) (sz α))) cs :=
  (nest_row h).get (by rw [List.getElem?_map, hi]; rfl)
/-- a new one goes in, behind the others -/
theorem nest_into {a : α} {l : List β} {v' : Value} (h : Held S H (orow e1 (L.map Prod.fst ++ [a]) v' :: orow e2 l (sl a) :: (inner e2 sl L ++ J))) : Held S H (nest e1 e2 sl (L ++ [(a, l)]) v' ++ J) := by
  refine h.perm ?_
  simp only [nest_eq, inner, List.map_append, List.map_cons, List.map_nil, List.cons_append, List.append_assoc, List.nil_append]
  exact List.Perm.cons _ List.perm_middle.symm
/-- the first of them -/
theorem nest_cut (h : Held S H (nest e1 e2 sl L v ++ J)) {n : Nat} (hn : n ≤ L.length) (h0 : 0 < L.length) : Held S H (nest e1 e2 sl (L.take n) (slsV v 0 (n : Int) (sz α)) ++ J) := by
  obtain ⟨h1, h2⟩ := (nest_row h).take (m := n) (by simpa using hn) (by simpa using h0)
  have h3 : Held S H (orow e1 ((L.map Prod.fst).take n) (slsV v 0 (n : Int) (sz α)) :: (inner e2 sl L ++ J)) :=
    Held.step (J := [orow e1 (L.map Prod.fst) v]) (J' := [orow e1 ((L.map Prod.fst).take n) (slsV v 0 (n : Int) (sz α))]) (nest_open h) (PH.le_refl _) (fun k o hk _ => hk) (fun k a b => absurd a b) (Row.held h.sh h1) fun j hj g hg => by
      rw [List.mem_singleton.1 hj] at hg
      exact .inr ⟨_, List.mem_singleton.2 rfl, by
        show Vc.ob v = some g
        rw [← h2]; exact hg⟩
  rw [← List.map_take] at h3
  refine h3.sub (List.Sublist.cons_cons _ (List.Sublist.append ?_ (List.Sublist.refl _)))
  simp only [inner, List.map_take]
  exact List.take_sublist _ _
/-- one's own cells become others -/
theorem nest_outer {i : Nat} {a a' : α} {l : List β} (hi : L[i]? = some (a, l)) (hs : sl a' = sl a) (h : Held S H (orow e1 ((L.map Prod.fst).set i a') v :: (inner e2 sl L ++ J))) : Held S H (nest e1 e2 sl (L.set i (a', l)) v ++ J) := by
  have e1' : (L.set i (a', l)).map Prod.fst = (L.map Prod.fst).set i a' := by rw [List.map_set]
  have e2' : inner e2 sl (L.set i (a', l)) = inner e2 sl L := by
    simp only [inner, List.map_set]
    refine List.ext_getElem? fun k => ?_
    rw [List.getElem?_set]
    split
    · rename_i e
      subst e
      split
      · simp only [List.getElem?_map, hi, Option.map_some, hs]
      · rename_i hn
        rw [List.getElem?_eq_none (by omega)]
    · rfl
  rw [nest_eq, e1', e2']
  exact h
/-- one's row, by itself -/
abbrev nestRest (e1 e2 : TypeId) (sl : α → Value) (L : List (α × List β)) (v : Value) (i : Nat) (J : List Itm) : List Itm := orow e1 (L.map Prod.fst) v :: ((inner e2 sl L).eraseIdx i ++ J)
theorem nest_pick {i : Nat} {a : α} {l : List β} (hi : L[i]? = some (a, l)) (h : Held S H (nest e1 e2 sl L v ++ J)) : Held S H (orow e2 l (sl a) :: nestRest e1 e2 sl L v i J) := by
  have hx : (inner e2 sl L)[i]? = some (orow e2 l (sl a)) := by simp only [inner, List.getElem?_map, hi, Option.map_some]
  refine (nest_open h).perm ?_
  refine List.Perm.trans (List.Perm.cons _ (List.Perm.append_right J (permPick hx).symm)) ?_
  exact List.Perm.swap _ _ _
theorem nest_unpick {i : Nat} {a : α} {l l' : List β} (hi : L[i]? = some (a, l)) (h : Held S H (orow e2 l' (sl a) :: nestRest e1 e2 sl L v i J)) : Held S H (nest e1 e2 sl (L.set i (a, l')) v ++ J) := by
  have hlt := (List.getElem?_eq_some_iff.1 hi).1
  have e1' : (L.set i (a, l')).map Prod.fst = L.map Prod.fst := by
    rw [List.map_set]
    refine List.ext_getElem? fun k => ?_
    rw [List.getElem?_set]
    split
    · rename_i e
      subst e
      rw [if_pos (by simpa using hlt)]
      simp only [List.getElem?_map, hi, Option.map_some]
    · rfl
  have e2' : inner e2 sl (L.set i (a, l')) = (inner e2 sl L).set i (orow e2 l' (sl a)) := by simp only [inner, List.map_set]
  rw [nest_eq, e1', e2']
  refine h.perm ?_
  refine List.Perm.trans (List.Perm.swap _ _ _) ?_
  refine List.Perm.cons _ ?_
  show ((orow e2 l' (sl a) :: (inner e2 sl L).eraseIdx i) ++ J).Perm _
  exact List.Perm.append_right J (permPut (by simpa [inner] using hlt))
/-- as it is read: each with its row as a plain thing -/
theorem nest_read {γ : Type} [Enc γ] {f : α × List β → γ} (h : Held S H (nest e1 e2 sl L v ++ J)) (hz : sz γ = sz α) (hf : ∀ x ∈ L, ∀ cs, CsR H x.1 cs → SlR H x.2 (sl x.1) → CsR H (f x) cs) : SlR H (L.map f) v := by
  have hr := (nest_row h).slR h.sh
  rw [SlR.mk_iff] at hr ⊢
  rw [List.length_map] at hr ⊢
  refine ⟨hr.1, ?_⟩
  rcases hr.2 with ⟨h1, h2⟩ | ⟨a, c, h1, h2, h3, h4⟩
  · exact .inl ⟨h1, by simpa using h2⟩
  · refine .inr ⟨a, c, h1, h2, h3, ?_⟩
    have hrow : ∀ x ∈ L, SlR H x.2 (sl x.1) := fun x hx => by
      obtain ⟨i, hi⟩ := List.getElem?_of_mem hx
      exact (nest_in_row h hi).slR h.sh
    clear h hr h1 h2 h3
    induction L generalizing a with
    | nil => simp [PV.RepRows]
    | cons x L ih =>
      simp only [List.map_cons, PV.RepRows] at h4 ⊢
      obtain ⟨⟨cs, c1, c2⟩, c3⟩ := h4
      refine ⟨⟨cs, hf x (List.mem_cons_self ..) cs c1 (hrow x (List.mem_cons_self ..)), c2⟩, ?_⟩
      have : (pv (f x)).length = (pv x.1).length := by
        show (Enc.pv _).length = (Enc.pv _).length
        rw [Enc.len, Enc.len]; exact hz
      rw [this]
      exact ih (fun x hx => hf x (List.mem_cons_of_mem _ hx)) _ c3 (fun x hx => hrow x (List.mem_cons_of_mem _ hx))
/-- all of them are let stand -/
theorem nest_freeze {γ : Type} [Enc γ] {f : α × List β → γ} (h : Held S H (nest e1 e2 sl L v ++ J)) (hz : sz γ = sz α) (hf : ∀ S x, x ∈ L → ∀ cs, CsR S x.1 cs → SlR S x.2 (sl x.1) → CsR S (f x) cs) : ∃ S', SlR S' (L.map f) v ∧ PH.le S S' ∧ Held S' H J := by
  obtain ⟨S1, h1, l1, h2⟩ := (nest_open h).freeze
  have key : ∀ (M : List (α × List β)) {S : PH}, Held S H (inner e2 sl M ++ J) → ∃ S', PH.le S S' ∧ Held S' H J ∧ ∀ x ∈ M, SlR S' x.2 (sl x.1) := by
    intro M
    induction M with
    | nil => exact fun {S} h => ⟨S, PH.le_refl _, h, fun x hx => by cases hx⟩
    | cons x M ih =>
      intro S h
      obtain ⟨S2, g1, g2, g3⟩ := Held.freeze (I := inner e2 sl M ++ J) h
      obtain ⟨S3, g4, g5, g6⟩ := ih g3
      refine ⟨S3, PH.le_trans g2 g4, g5, fun y hy => ?_⟩
      rcases List.mem_cons.1 hy with rfl | hy
      · exact g1.le g4
      · exact g6 y hy
  obtain ⟨S2, l2, h3, h4⟩ := key L h2
  refine ⟨S2, ?_, PH.le_trans l1 l2, h3⟩
  have hr := h1.le l2
  rw [SlR.mk_iff] at hr ⊢
  rw [List.length_map] at hr ⊢
  refine ⟨hr.1, ?_⟩
  rcases hr.2 with ⟨g1, g2⟩ | ⟨a, c, g1, g2, g3, g4⟩
  · exact .inl ⟨g1, by simpa using g2⟩
  · refine .inr ⟨a, c, g1, g2, g3, ?_⟩
    clear h hr g1 g2 g3 h1 h2 h3
    induction L generalizing a with
    | nil => simp [PV.RepRows]
    | cons x L ih =>
      simp only [List.map_cons, PV.RepRows] at g4 ⊢
      obtain ⟨⟨cs, c1, c2⟩, c3⟩ := g4
      refine ⟨⟨cs, hf S2 x (List.mem_cons_self ..) cs c1 (h4 x (List.mem_cons_self ..)), c2⟩, ?_⟩
      have : (pv (f x)).length = (pv x.1).length := by
        show (Enc.pv _).length = (Enc.pv _).length
        rw [Enc.len, Enc.len]; exact hz
      rw [this]
      exact ih (fun S x hx => hf S x (List.mem_cons_of_mem _ hx)) (fun x hx => h4 x (List.mem_cons_of_mem _ hx)) _ c3
end
end Go.Proofs.Ytcfgpbmcgmkmhaa.Vc
/-
 HEAP: the document's heap in memory, read.
-/
namespace Go.Proofs.Ytcfgpbmcgmkmhaa.Vc
open Go

def TX.pv (t : TX) : List PV := [.int .i64 t.kind, slp t.parts]
instance encThingX : Enc TX := ⟨TX.pv, 2, fun _ => rfl⟩
theorem thingX_iff {H : PH} {t : TX} {cs : List Value} : CsR H t cs ↔ ∃ v, cs = [.int .i64 t.kind, v] ∧ InI t.kind ∧ SlR H t.parts v := by
 show PV.RepRow H (TX.pv t) cs ↔ _
 simp only [TX.pv, PV.RepRow, repI_iff]
 constructor
 ·rintro ⟨v1, _, rfl, ⟨rfl, h1⟩, v2, _, rfl, h2, rfl⟩
  exact ⟨v2, rfl, h1, h2⟩
 ·rintro ⟨v, rfl, h1, h2⟩
  exact ⟨_, _, rfl, ⟨rfl, h1⟩, v, _, rfl, h2, rfl⟩
def VFit (v : VX) : Prop := InI v.kind ∧ InI v.int ∧ v.text.length ≤ maxLen
theorem val_mk {H : PH} {v : VX} (h : VFit v) : CsR H v (valVs v) := val_iff.2 ⟨rfl, h⟩
theorem val_cs {H : PH} {v : VX} {cs : List Value} (h : CsR H v cs) : cs = valVs v ∧ VFit v := by
 obtain ⟨h1, h2⟩ := val_iff.1 h
 exact ⟨h1, h2⟩
/-- the heap, as it is read -/
def HeapAt (H : PH) (hr : Nat) (h : HX) : Prop := ∃ thv, rowAt H (some ⟨hr, 0, none⟩) [thv] ∧ SlR H h thv
theorem HeapAt.le {H H' : PH} {hr : Nat} {h : HX} (hl : PH.le H H') (hh : HeapAt H hr h) : HeapAt H' hr h := by
 obtain ⟨thv, h1, h2⟩ := hh
 exact ⟨thv, rowAt_le hl h1, h2.le hl⟩
theorem May8_gives (h : HX) (hr : Nat) (v : VX) (hv : VFit v) (H : PH) (hh : HeapAt H hr h) : Gives Try.prog n_scrimshawref08_Heap__May [pAt hr, valV v] H (.bool (mayV h.length v)) := by
 obtain ⟨thv, hr1, hs⟩ := hh
 obtain ⟨tb, tc, rfl⟩ := hs.sl
 refine tri_scrimshawref08_Heap__May ([pAt hr] ++ valVs v) (by kernel_rfl) (by kernel_rfl) ?_
 simp only [cns]
 refine ⟨fun g => ⟨?_, PH.le_refl _⟩, fun g => ⟨fun g0 => ⟨?_, PH.le_refl _⟩, fun g0 => ⟨fun g1 => ?_, fun g1 => ⟨fun g2 => ⟨?_, PH.le_refl _⟩, fun g2 => ⟨fun g3 => ?_, fun g3 => ?_⟩⟩⟩⟩⟩
 ·simp only [evs, evb, txt_neq] at g
  simp only [Bool.and_eq_true, decide_eq_true_eq] at g
  simp only [mayV, if_pos g]
  rfl
 all_goals simp only [evs, evb, txt_neq] at g
 all_goals simp only [Bool.and_eq_false_iff, decide_eq_false_iff_not, Decidable.not_not] at g
 all_goals have g' : ¬ (v.kind ≠ 3 ∧ v.text ≠ []) := fun hh => g.elim (fun g => hh.1 g) (fun g => hh.2 g)
 ·simp only [evs, evb, decide_eq_true_eq] at g0
  simp only [mayV, if_neg g', if_pos g0]
  by_cases e0 : v.int = 0 <;> simp [evs, evb, e0]
 all_goals simp only [evs, evb, decide_eq_false_iff_not] at g0
 ·simp only [evs, evb, decide_eq_true_eq] at g1
  refine den_gives [.bool (isNum v.int)] cb_scrimshawref01_Is (Is_gives v.int H) rfl pendNil fun H1 l1 => ⟨?_, l1⟩
  simp only [mayV, if_neg g', if_neg g0, if_pos g1]
  rfl
 all_goals simp only [evs, evb, decide_eq_false_iff_not] at g1
 ·simp only [evs, evb, decide_eq_true_eq] at g2
  simp only [mayV, if_neg g', if_neg g0, if_neg g1, if_pos g2]
  simp only [evs, evb, Bool.decide_and, ge_iff_le]
 all_goals simp only [evs, evb, decide_eq_false_iff_not] at g2
 ·simp only [evs, evb, decide_eq_true_eq] at g3
  have hm : mayV h.length v = (decide (v.int = 0) && nameOk v.text) := by
   simp only [mayV, if_neg g', if_neg g0, if_neg g1, if_neg g2, if_pos g3]
  refine ⟨fun vs K => vs = [.bool (mayV h.length v)] ∧ PH.le H K, ?_, fun g4 => ?_, fun g4 => ?_⟩
  ·rintro vs K _ ⟨rfl, l1⟩; exact ⟨rfl, l1⟩
  ·simp only [evs, evb, decide_eq_true_eq] at g4
   refine den_gives [.bool (nameOk v.text)] cb_scrimshawref02_Name (RName_gives v.text hv.2.2 H) rfl pendNil fun H1 l1 => ⟨_, lookup_hit, ?_, l1⟩
   simp [evs, evb, hm, g4]
  ·simp only [evs, evb, decide_eq_false_iff_not] at g4
   refine ⟨_, lookup_hit, ?_, PH.le_refl _⟩
   simp [evs, evb, hm, g4]
 ·simp only [evs, evb, decide_eq_false_iff_not] at g3
  refine ⟨fun vs K => vs = [.bool (decide (v.kind = 4 ∨ v.kind = 5 ∨ v.kind = 6 ∨ v.kind = 7))] ∧ K = H, ?_, fun g4 => ?_, fun g4 => ⟨fun g5 => ?_, fun g5 => ?_⟩⟩
  ·rintro vs K _ ⟨rfl, rfl⟩
   refine ⟨fun g4 => ⟨?_, PH.le_refl _⟩, fun g4 => ⟨fun g5 => ?_, fun g5 => ⟨?_, PH.le_refl _⟩⟩⟩
   ·simp only [evs, evb, decide_eq_true_eq] at g4
    simp only [mayV, if_neg g', if_neg g0, if_neg g1, if_neg g2, if_neg g3, if_pos g4]
    simp only [evs, evb]
   ·simp only [evs, evb, decide_eq_false_iff_not] at g4
    simp only [evs, evb, decide_eq_true_eq] at g5
    have hm : mayV h.length v = decide (0 ≤ v.int ∧ v.int < (h.length : Int)) := by
     simp only [mayV, if_neg g', if_neg g0, if_neg g1, if_neg g2, if_neg g3, if_neg g4, if_pos g5]
    refine ⟨fun vs K2 => vs = [.bool (mayV h.length v)] ∧ K2 = K, ?_, ?_, ?_, fun g6 => ?_, fun g6 => ?_⟩
    ·rintro vs K2 _ ⟨rfl, rfl⟩; exact ⟨rfl, PH.le_refl _⟩
    ·intro _; simp [Chk.holds, evs, evb]
    ·intro _; simp [Chk.holds, evs, evb]
    ·simp only [evs, evb, ge_iff_le, decide_eq_true_eq] at g6
     refine ⟨[.slice tb h.length tc], rfl, by simp only [evs, evb]; exact hr1, _, lookup_hit, ?_, rfl⟩
     simp [evs, evb, hm, g6]
    ·simp only [evs, evb, ge_iff_le, decide_eq_false_iff_not] at g6
     refine ⟨_, lookup_hit, ?_, rfl⟩
     simp [evs, evb, hm, g6]
   ·simp only [evs, evb, decide_eq_false_iff_not] at g4 g5
    simp only [mayV, if_neg g', if_neg g0, if_neg g1, if_neg g2, if_neg g3, if_neg g4, if_neg g5]
    simp only [evs, evb]
  ·simp only [evs, evb, decide_eq_true_eq] at g4
   refine ⟨_, lookup_hit, ?_, rfl⟩
   simp [evs, evb, g4]
  ·simp only [evs, evb, decide_eq_true_eq] at g5
   refine ⟨_, lookup_hit, ?_, rfl⟩
   simp [evs, evb, g5]
  ·simp only [evs, evb, decide_eq_false_iff_not] at g4 g5
   refine ⟨_, lookup_hit, ?_, rfl⟩
   by_cases e6 : v.kind = 6 <;> by_cases e7 : v.kind = 7 <;> simp [evs, evb, g4, g5, e6, e7]
theorem heap_get {H : PH} {h : HX} {tb : Option Addr} {tc : Nat} (hs : SlR H h (.slice tb h.length tc)) {i : Nat} {t : TX} (hi : h[i]? = some t) : (tb.isSome = true) ∧ ∃ v, InI t.kind ∧ SlR H t.parts v ∧ rowAt H (pOf (eltV (.slice tb h.length tc) (i : Int) 2)) [.int .i64 t.kind, v] := by
 obtain ⟨h1, _, cs, h2, h3⟩ := hs.get hi
 obtain ⟨v, rfl, h4, h5⟩ := thingX_iff.1 h2
 exact ⟨h1, v, h4, h5, h3⟩
/-- two cells that lie so: the second one -/
theorem row_second {H : PH} {p : Option Addr} {a b : Value} (h : rowAt H p [a, b]) : rowAt H (p.map (·.add 1)) [b] := rowAt_sub h 1 1
theorem row_first {H : PH} {p : Option Addr} {a b : Value} (h : rowAt H p [a, b]) : rowAt H (p.map (·.add 0)) [a] := rowAt_sub h 0 1
theorem Kind8_gives (h : HX) (hr : Nat) (v : VX) (hm : mayV h.length v = true) (H : PH) (hh : HeapAt H hr h) : Gives Try.prog n_scrimshawref08_Heap__Kind [pAt hr, valV v] H (.int .i64 (thingK h v)) := by
 obtain ⟨thv, hr1, hs⟩ := hh
 obtain ⟨tb, tc, rfl⟩ := hs.sl
 refine tri_scrimshawref08_Heap__Kind ([pAt hr] ++ valVs v) (by kernel_rfl) (by kernel_rfl) ?_
 simp only [cns]
 refine ⟨fun g => ⟨?_, PH.le_refl _⟩, fun g => ?_⟩
 ·simp only [evs, evb, decide_eq_true_eq] at g
  simp only [thingK, if_pos g]
  rfl
 simp only [evs, evb, decide_eq_false_iff_not, Decidable.not_not] at g
 have hin : 0 ≤ v.int ∧ v.int < (h.length : Int) := by
  unfold mayV at hm
  split at hm
  ·cases hm
  ·simpa [g] using hm
 obtain ⟨i, hi⟩ : ∃ i : Nat, v.int = (i : Int) := ⟨v.int.toNat, by omega⟩
 obtain ⟨t, ht⟩ : ∃ t, h[i]? = some t := ⟨_, List.getElem?_eq_getElem (by omega)⟩
 obtain ⟨hsome, pv, h4, h5, h6⟩ := heap_get hs ht
 refine ⟨fun _ => by simp [Chk.holds, evs, evb], [.slice tb h.length tc], rfl, by simp only [evs, evb]; exact hr1, fun _ => ?_, [.int .i64 t.kind], rfl, ?_, ?_, PH.le_refl _⟩
 ·simp only [Chk.holds, evs, evb]; exact ⟨hsome, by omega, by omega⟩
 ·simp only [evs, evb, hi]
  exact row_first h6
 ·have : thingK h v = t.kind := by
   unfold thingK
   rw [if_neg (fun hh => hh g), hi, Int.toNat_natCast, List.getD_eq_getElem?_getD, ht]; rfl
  rw [this]; rfl
theorem get8_gives (h : HX) (hr : Nat) (v : VX) (i : Int) (hin : 0 ≤ v.int ∧ v.int < (h.length : Int)) (H : PH) (hh : HeapAt H hr h) : Gives Try.prog n_scrimshawref08_Heap__get [pAt hr, valV v, .int .i64 i] H (.tuple #[valV (getX h v i).1, .int .i64 (getX h v i).2]) := by
 obtain ⟨thv, hr1, hs⟩ := hh
 obtain ⟨tb, tc, rfl⟩ := hs.sl
 refine tri_scrimshawref08_Heap__get ([pAt hr] ++ valVs v ++ [.int .i64 i]) (by kernel_rfl) (by kernel_rfl) ?_
 simp only [cns]
 obtain ⟨k, hk⟩ : ∃ k : Nat, v.int = (k : Int) := ⟨v.int.toNat, by omega⟩
 obtain ⟨t, ht⟩ : ∃ t, h[k]? = some t := ⟨_, List.getElem?_eq_getElem (by omega)⟩
 obtain ⟨hsome, pv, h4, h5, h6⟩ := heap_get hs ht
 have hgd : h.getD v.int.toNat default = t := by rw [hk, Int.toNat_natCast, List.getD_eq_getElem?_getD, ht]; rfl
 obtain ⟨pb, pc, rfl⟩ := h5.sl
 refine ⟨fun _ => by simp [Chk.holds, evs, evb], [.slice tb h.length tc], rfl, by simp only [evs, evb]; exact hr1, fun _ => ?_, [.slice pb t.parts.length pc], rfl, ?_, fun g => ⟨?_, PH.le_refl _⟩, fun g => ?_⟩
 ·simp only [Chk.holds, evs, evb]; exact ⟨hsome, by omega, by omega⟩
 ·simp only [evs, evb, hk]
  exact row_second h6
 ·simp only [evs, evb] at g
  simp only [Bool.or_eq_true, decide_eq_true_eq, ge_iff_le] at g
  unfold getX
  simp only [hgd, if_pos g]
  rfl
 ·simp only [evs, evb] at g
  simp only [Bool.or_eq_false_iff, decide_eq_false_iff_not, ge_iff_le] at g
  obtain ⟨j, rfl⟩ : ∃ j : Nat, i = (j : Int) := ⟨i.toNat, by omega⟩
  obtain ⟨x, hx⟩ : ∃ x, t.parts[j]? = some x := ⟨_, List.getElem?_eq_getElem (by omega)⟩
  obtain ⟨x1, _, xcs, x2, x3⟩ := h5.get hx
  obtain ⟨rfl, xf⟩ := val_cs x2
  refine ⟨fun _ => ?_, valVs x, rfl, by simp only [evs, evb]; exact x3, ?_, PH.le_refl _⟩
  ·simp only [Chk.holds, evs, evb]; exact ⟨x1, by omega, by omega⟩
  ·have : getX h v (j : Int) = (x, 0) := by
    unfold getX
    simp only [hgd]
    rw [if_neg (by omega), Int.toNat_natCast, List.getD_eq_getElem?_getD, hx]; rfl
   rw [this]; rfl
end Go.Proofs.Ytcfgpbmcgmkmhaa.Vc
/-
 HEAP: the document's heap in memory, written.
-/
namespace Go.Proofs.Ytcfgpbmcgmkmhaa.Vc
open Go

section
variable {S H : PH} {I : List Itm} {a b c : Itm}
theorem Held.swap (h : Held S H (a :: b :: I)) : Held S H (b :: a :: I) := h.perm (List.Perm.swap _ _ _)
theorem Held.third (h : Held S H (a :: b :: c :: I)) : Held S H (c :: a :: b :: I) := h.perm ((List.Perm.cons _ (List.Perm.swap _ _ _)).trans (List.Perm.swap _ _ _))
theorem Held.up {I J : List Itm} (h : Held S H (I ++ a :: J)) : Held S H (a :: (I ++ J)) := h.perm List.perm_middle
end
theorem pendOne {E : List Value} {H : PH} {p : SV} {ss : List SV} (h : rowAt H (pOf (ev0 E p)) (ss.map (ev0 E))) : pendOk E H [(p, ss)] := fun x hx => by
 rw [List.mem_singleton.1 hx]; exact h
theorem uValsK : Try.prog.underlying 81 = some (.slice 73) := by kernel_rfl
theorem elemValK : ElemOk Try.prog 73 3 32 = true := by kernel_rfl
theorem uThingsK : Try.prog.underlying 69 = some (.slice 129) := by kernel_rfl
theorem elemThingK : ElemOk Try.prog 129 2 32 = true := by kernel_rfl
abbrev thX (x : TR × List VX) : TX := ⟨x.1.kind, x.2⟩
abbrev hpX (L : List (TR × List VX)) : HX := L.map thX
/-- the heap's items: its block, its things, their parts -/
def heapI (hr : Nat) (L : List (TR × List VX)) (thv : Value) : List Itm := bx hr 71 [thv] :: nest 129 73 TR.sl L thv
theorem bx_one {S H : PH} {I : List Itm} {r : Nat} {T : TypeId} {v : Value} (h : Held S H I) (hi : bx r T [v] ∈ I) : rowAt H (some ⟨r, 0, none⟩) [v] := bx_row h hi 0 1
theorem heap_at {S H : PH} {I : List Itm} {hr : Nat} {L : List (TR × List VX)} {thv : Value} (h : Held S H (heapI hr L thv ++ I)) : HeapAt H hr (hpX L) := by
 refine ⟨thv, bx_one h (List.mem_cons_self ..), ?_⟩
 refine nest_read (f := thX) (J := I) h.tail rfl fun x _ cs h1 h2 => ?_
 obtain ⟨rfl, h3⟩ := thing_iff.1 h1
 exact thingX_iff.2 ⟨_, rfl, h3, h2⟩
def HpR (hr : Nat) (h' : HX) (xv : Value) : Ending → PH → List Itm → Prop := fun x _ J' => x = .returned xv ∧ ∃ L' thv', J' = heapI hr L' thv' ∧ hpX L' = h'
abbrev HpTo (f : FuncId) (args : Array Value) (S K : PH) (hr : Nat) (h' : HX) (xv : Value) : Prop := Tri Try.prog f args K fun x K' => ∃ S' J', PH.le S S' ∧ Held S' K' J' ∧ HpR hr h' xv x S' J'
/-- beside other things that are held -/
theorem HpTo.beside {f : FuncId} {args : Array Value} {S H : PH} {hr : Nat} {h' : HX} {xv : Value} {L : List (TR × List VX)} {thv : Value} {I : List Itm} (h : Held S H (heapI hr L thv ++ I)) (ht : ∀ K, Held S K (heapI hr L thv) → HpTo f args S K hr h' xv) :
  Tri Try.prog f args H fun x H' => x = .returned xv ∧ ∃ S' L' thv', PH.le S S' ∧ Held S' H' (heapI hr L' thv' ++ I) ∧ hpX L' = h' := by
 refine (h.call ht).mono ?_
 rintro x H' ⟨S', J', h1, h2, h3, L', thv', rfl, h4⟩
 exact ⟨h3, S', L', thv', h1, h2, h4⟩
theorem held_nil {S H : PH} {I : List Itm} (h : Held S H I) : Held S H (I ++ []) := by rw [List.append_nil]; exact h
theorem add8_tri (hr : Nat) (L : List (TR × List VX)) (thv : Value) (kind : Int) (parts : List VX) (pv : Value) (S K : PH) (hK : Held S K (heapI hr L thv)) (hp : SlR S parts pv) (hk : InI kind) (hL : L.length ≤ 16777216) (hpl : parts.length ≤ 1048576) :
  HpTo n_scrimshawref08_Heap__add #[pAt hr, .int .i64 kind, pv] S K hr (addX (hpX L) kind parts).1 (valV (addX (hpX L) kind parts).2) := by
 obtain ⟨pb, pc, rfl⟩ := hp.sl
 obtain ⟨tb, tc, rfl⟩ := nest_sl (J := []) (held_nil hK).tail
 refine tri_scrimshawref08_Heap__add [pAt hr, .int .i64 kind, .slice pb parts.length pc] (by kernel_rfl) (by kernel_rfl) ?_
 refine ⟨fun _ => by simp [Chk.holds, evs, evb], [.slice tb L.length tc], rfl, by simp only [evs, evb]; exact bx_one hK (List.mem_cons_self ..), ?_⟩
 simp only [cns]
 have hpd : ∀ {S K : PH} {I : List Itm} {E : List Value}, Held S K I → bx hr 71 [.slice tb L.length tc] ∈ I → rowAt K (some ⟨hr, 0, none⟩) [.slice tb L.length tc] := fun h hi => bx_one h hi
 refine den_hLit0 (α := VX) (b := 32) uValsK elemValK hK (pendOne (by simp only [evs, evb]; exact bx_one hK (List.mem_cons_self ..))) fun v4 K4 h4 _ _ => ?_
 simp only [cns]
 refine den_hApp (b := 32) (more := parts) uValsK elemValK (by kernel_rfl) (by kernel_rfl) h4 (hp.srcS h4.sh) (by simp only [maxLen, List.length_nil]; omega) (by simp only [List.length_nil]; omega) fun v5 K5 h5 _ => ⟨pendOne (by simp only [evs, evb]; exact bx_one h5 (List.mem_cons_of_mem _ (List.mem_cons_self ..))), ?_⟩
 rw [List.nil_append] at h5
 obtain ⟨b5, c5, rfl⟩ := (h5.row (List.mem_cons_self ..)).sl
 simp only [cns]
 refine den_hPush (b := 32) (more := [(⟨kind, b5, parts.length, c5⟩ : TR)]) [.agg #[.int .i64 kind, .slice b5 parts.length c5]] uThingsK elemThingK rfl (by decide) (by decide) h5.third (by kernel_rfl) (.cons (thing_iff.2 ⟨rfl, hk⟩) .nil) (pendOne (by simp only [evs, evb]; exact bx_one h5 (List.mem_cons_of_mem _ (List.mem_cons_self ..)))) (fun u => by kernel_rfl) (fun u => by kernel_rfl)
  (by simp only [maxLen, List.length_map, List.length_cons, List.length_nil]; omega) (by simp only [List.length_map, List.length_cons, List.length_nil]; omega) fun u v7 S7 K7 l7 h7 => ⟨pendNil, ?_⟩
 simp only [cns]
 obtain ⟨b7, c7, hv7⟩ := (h7.row (List.mem_cons_self ..)).sl
 have h8 := h7.third
 refine den_bxStore (off := 0) (vs := [v7]) (by simp only [evs, evb]; rfl) h8 (by simp only [evs, evb]) (by rw [hv7]; simp [oneC]) (by simp) fun K8 h9 => ?_
 have h9' : Held S7 K8 (bx hr 71 [v7] :: orow 129 (L.map Prod.fst ++ [(⟨kind, b5, parts.length, c5⟩ : TR)]) v7 :: orow 73 parts (.slice b5 parts.length c5) :: inner 73 TR.sl L) := h9
 have h10 : Held S7 K8 (orow 129 (L.map Prod.fst ++ [(⟨kind, b5, parts.length, c5⟩ : TR)]) v7 :: orow 73 parts (TR.sl ⟨kind, b5, parts.length, c5⟩) :: (inner 73 TR.sl L ++ [bx hr 71 [v7]])) := by
  refine h9'.perm ?_
  refine List.Perm.trans (List.Perm.swap _ _ _) (List.Perm.cons _ ?_)
  refine List.Perm.trans (List.Perm.swap _ _ _) (List.Perm.cons _ ?_)
  exact (List.perm_append_comm (l₁ := [_]) (l₂ := inner 73 TR.sl L))
 have h11 := nest_into (a := (⟨kind, b5, parts.length, c5⟩ : TR)) h10
 have h12 : Held S7 K8 (heapI hr (L ++ [((⟨kind, b5, parts.length, c5⟩ : TR), parts)]) v7) := h11.perm List.perm_append_comm
 have hlen : slLen v7 = L.length + 1 := by rw [hv7]; simp [slLen]
 refine ⟨[v7], by rw [hv7]; rfl, by simp only [evs, evb]; exact bx_one h12 (List.mem_cons_self ..), ?_⟩
 refine ⟨S7, _, l7, h12, ?_, _, v7, rfl, ?_⟩
 ·rw [hv7]
  have hw : IntKind.i64.wrap (L.length : Int) = L.length := w64 (by omega) (by omega)
  simp [addX, evs, evb, hw]
 ·simp [addX, hpX, thX]
theorem make4_tri (hr : Nat) (L : List (TR × List VX)) (thv : Value) (S K : PH) (hK : Held S K (heapI hr L thv)) (hL : L.length ≤ 16777216) :
  HpTo n_scrimshawref08_Heap__Make #[pAt hr, .int .i64 4, .slice none 0 0] S K hr (addX (hpX L) 4 []).1 (.tuple #[valV (addX (hpX L) 4 []).2, .int .i64 0]) := by
 refine tri_scrimshawref08_Heap__Make [pAt hr, .int .i64 4, .slice none 0 0] (by kernel_rfl) (by kernel_rfl) ?_
 refine ⟨fun g => by simp [evs, evb] at g, fun g => ?_⟩
 refine ⟨fun n vs K1 => n = 0 ∧ vs = [.int .i64 0, .int .i64 0, .int .i64 0, .int .i64 0, txt []] ∧ K1 = K, ⟨0, rfl, rfl, rfl⟩, ?_⟩
 rintro n vs K1 _ ⟨rfl, rfl, rfl⟩
 refine ⟨fun g2 => by simp [evs, evb] at g2, fun g2 => ?_⟩
 refine den_call cb_scrimshawref08_Heap__add (add8_tri hr L thv 4 [] (.slice none 0 0) S K1 hK (SlR.mk_iff.2 ⟨by simp, .inl ⟨rfl, rfl⟩⟩) (by unfold InI; omega) hL (by simp)) ?_
 rintro x K2 ⟨S2, J2, l2, h2, rfl, L', thv', rfl, hh⟩
 refine ⟨_, valVs (addX (hpX L) 4 []).2, rfl, rfl, rfl, pendNil, S2, _, l2, h2, rfl, L', thv', rfl, hh⟩
theorem rep_succ {α : Type} (n : Nat) (a : α) : List.replicate n a ++ [a] = List.replicate (n + 1) a := by
 rw [show ([a] : List α) = List.replicate 1 a from rfl, List.replicate_append_replicate]
theorem filled8_tri (hr : Nat) (L : List (TR × List VX)) (thv : Value) (kind n : Int) (v : VX) (S K : PH) (hK : Held S K (heapI hr L thv)) (hv : VFit v) (hk : InI kind) (hL : L.length ≤ 16777216) :
  HpTo n_scrimshawref08_Heap__filled #[pAt hr, .int .i64 kind, .int .i64 n, valV v] S K hr (filledX (hpX L) kind n v).1 (.tuple #[valV (filledX (hpX L) kind n v).2.1, .int .i64 (filledX (hpX L) kind n v).2.2]) := by
 refine tri_scrimshawref08_Heap__filled ([pAt hr, .int .i64 kind, .int .i64 n] ++ valVs v) (by kernel_rfl) (by kernel_rfl) ?_
 simp only [cns]
 refine ⟨fun g => ?_, fun g => ?_⟩
 ·simp only [evs, evb] at g
  simp only [Bool.or_eq_true, decide_eq_true_eq] at g
  have : filledX (hpX L) kind n v = (hpX L, vNone, 83) := by unfold filledX; rw [if_pos (by omega)]
  rw [this]
  exact ⟨S, _, PH.le_refl _, hK, rfl, L, thv, rfl, rfl⟩
 simp only [evs, evb] at g
 simp only [Bool.or_eq_false_iff, decide_eq_false_iff_not] at g
 obtain ⟨N, rfl⟩ : ∃ N : Nat, n = (N : Int) := ⟨n.toNat, by omega⟩
 have hN : N ≤ 1000 := by omega
 have hf : filledX (hpX L) kind (N : Int) v = ((addX (hpX L) kind (List.replicate N v)).1, (addX (hpX L) kind (List.replicate N v)).2, 0) := by
  unfold filledX; rw [if_neg (by omega), Int.toNat_natCast]
 rw [hf]
 refine den_hLit0 (α := VX) (b := 32) uValsK elemValK hK pendNil fun v6 K6 h6 _ _ => ?_
 simp only [cns]
 refine ⟨fun m vs K1 => ∃ (k : Nat) (u : Value) (S1 : PH), vs = [u, nI k] ∧ k + m = N ∧ PH.le S S1 ∧ Held S1 K1 (orow 73 (List.replicate k v) u :: heapI hr L thv), ⟨N, 0, v6, S, rfl, by omega, PH.le_refl _, h6⟩, ?_⟩
 rintro m vs K1 _ ⟨k, u, S1, rfl, hkm, l1, h1⟩
 simp only [cns]
 obtain ⟨ub, uc, hu⟩ := (h1.row (List.mem_cons_self ..)).sl
 rw [List.length_replicate] at hu
 refine ⟨fun g2 => ?_, fun g2 => ?_⟩
 ·simp only [evs, evb, decide_eq_true_eq] at g2
  refine den_hPush (b := 32) (more := [v]) [valV v] uValsK elemValK rfl (by decide) (by decide) h1 (by kernel_rfl) (.cons (val_mk hv) .nil) pendNil (fun u => by kernel_rfl) (fun u => by kernel_rfl)
   (by simp only [maxLen, List.length_replicate, List.length_cons, List.length_nil]; omega) (by simp only [List.length_replicate, List.length_cons, List.length_nil]; omega) fun u2 v7 S7 K7 l7 h7 => ⟨pendNil, ?_⟩
  rw [rep_succ] at h7
  refine ⟨_, lookup_hit, m - 1, by omega, k + 1, v7, S7, ?_, by omega, PH.le_trans l1 l7, h7⟩
  simp only [evs, evb]; rw [w64 (by omega) (by omega)]; rfl
 ·simp only [evs, evb, decide_eq_false_iff_not] at g2
  have : k = N := by omega
  subst this
  obtain ⟨S3, s3, l3, h3⟩ := h1.freeze
  refine den_call cb_scrimshawref08_Heap__add (add8_tri hr L thv kind (List.replicate k v) u S3 K1 h3 s3 hk hL (by rw [List.length_replicate]; omega)) ?_
  rintro x K2 ⟨S2, J2, l2, h2, rfl, L', thv', rfl, hh⟩
  refine ⟨_, valVs (addX (hpX L) kind (List.replicate k v)).2, rfl, rfl, rfl, pendNil, S2, _, PH.le_trans l1 (PH.le_trans l3 l2), h2, rfl, L', thv', rfl, hh⟩
theorem put8_tri (hr : Nat) (L : List (TR × List VX)) (thv : Value) (v : VX) (i : Int) (x : VX) (S K : PH) (hK : Held S K (heapI hr L thv)) (hin : 0 ≤ v.int ∧ v.int < (L.length : Int)) (hx : VFit x) :
  HpTo n_scrimshawref08_Heap__put #[pAt hr, valV v, .int .i64 i, valV x] S K hr (putX (hpX L) v i x).1 (.tuple #[valV (putX (hpX L) v i x).2.1, .int .i64 (putX (hpX L) v i x).2.2]) := by
 obtain ⟨tb, tc, rfl⟩ := nest_sl (J := []) (held_nil hK).tail
 refine tri_scrimshawref08_Heap__put ([pAt hr] ++ valVs v ++ [.int .i64 i] ++ valVs x) (by kernel_rfl) (by kernel_rfl) ?_
 simp only [cns]
 obtain ⟨k, hk⟩ : ∃ k : Nat, v.int = (k : Int) := ⟨v.int.toNat, by omega⟩
 obtain ⟨t, ht⟩ : ∃ t, L[k]? = some t := ⟨_, List.getElem?_eq_getElem (by omega)⟩
 obtain ⟨tr, l⟩ := t
 obtain ⟨hsome, _, cs, h4, h6⟩ := nest_get (J := []) (held_nil hK).tail ht
 obtain ⟨rfl, h5⟩ := thing_iff.1 h4
 have hgd : (hpX L).getD v.int.toNat default = ⟨tr.kind, l⟩ := by rw [hk, Int.toNat_natCast, List.getD_eq_getElem?_getD, List.getElem?_map, ht]; rfl
 obtain ⟨pb, pc, hpv⟩ := (nest_in_row (J := []) (held_nil hK).tail ht).sl
 simp only at hpv h6
 refine ⟨fun _ => by simp [Chk.holds, evs, evb], [.slice tb L.length tc], rfl, by simp only [evs, evb]; exact bx_one hK (List.mem_cons_self ..), fun _ => ?_, [.slice pb l.length pc], rfl, ?_, fun g => ?_, fun g => ?_⟩
 ·simp only [Chk.holds, evs, evb]; exact ⟨hsome, by omega, by omega⟩
 ·simp only [evs, evb, hk]
  rw [← hpv]
  exact row_second h6
 ·simp only [evs, evb] at g
  simp only [Bool.or_eq_true, decide_eq_true_eq, ge_iff_le] at g
  have : putX (hpX L) v i x = (hpX L, vNone, 83) := by
   unfold putX
   simp only [hgd, if_pos g]
  rw [this]
  exact ⟨S, _, PH.le_refl _, hK, rfl, L, _, rfl, rfl⟩
 ·simp only [evs, evb] at g
  simp only [Bool.or_eq_false_iff, decide_eq_false_iff_not, ge_iff_le] at g
  obtain ⟨j, rfl⟩ : ∃ j : Nat, i = (j : Int) := ⟨i.toNat, by omega⟩
  obtain ⟨y, hy⟩ : ∃ y, l[j]? = some y := ⟨_, List.getElem?_eq_getElem (by omega)⟩
  have hnest : Held S K (nest 129 73 TR.sl L (.slice tb L.length tc) ++ [bx hr 71 [.slice tb L.length tc]]) := Held.perm (I := [bx hr 71 [.slice tb L.length tc]] ++ nest 129 73 TR.sl L (.slice tb L.length tc)) hK List.perm_append_comm
  have hp := nest_pick ht hnest
  rw [hpv] at hp
  obtain ⟨y1, _⟩ := (hp.row (List.mem_cons_self ..)).get hy
  refine ⟨fun _ => ?_, ?_⟩
  ·simp only [Chk.holds, evs, evb]; exact ⟨y1, by omega, by omega⟩
  refine den_hPutZ (i := j) (a := y) (a' := x) (us := valVs x) ?_ hp hy rfl ?_ (by simp [oneC]) (val_mk hx) fun K9 h9 => ?_
  ·simp only [evs, evb]; rfl
  ·simp only [evs, evb]
  rw [← hpv] at h9
  have h10 := nest_unpick ht h9
  have h11 : Held S K9 (heapI hr (L.set k (tr, l.set j x)) (.slice tb L.length tc)) := h10.perm List.perm_append_comm
  have : putX (hpX L) v (j : Int) x = ((hpX L).set k ⟨tr.kind, l.set j x⟩, vVoid, 0) := by
   unfold putX
   simp only [hgd]
   rw [if_neg (by omega), hk, Int.toNat_natCast, Int.toNat_natCast]
  rw [this]
  refine ⟨S, _, PH.le_refl _, h11, rfl, _, _, rfl, ?_⟩
  simp [hpX, thX, List.map_set]
end Go.Proofs.Ytcfgpbmcgmkmhaa.Vc
/-
  HEAP: the document's table of primitives; values compared.
-/
namespace Go.Proofs.Ytcfgpbmcgmkmhaa.Vc
open Go

/-! ### a function without arguments gives a plain value, by its run -/
def retIs (p : PV) : Out → Bool
  | .ret 0 [.pv q] => PV.same q p
  | _ => false
def runsTo (P : Program) (tab : List CK) (fm : Fm VE) (p : PV) : Bool := match run P tab fm [] [] with
  | some outs => outs.all (retIs p)
  | none => false
theorem runs_to {P : Program} {S0 : PH} {tab : List CK} {fm : Fm VE} {p : PV} {X : List PanicEntry → PH → Prop} (htab : TabOk P S0 tab) (h : runsTo P tab fm p = true) {R : Ending → PH → Prop}
    (hR : ∀ H' v, PH.le S0 H' → p.Rep H' v → R (.returned v) H') : den P X fm [] S0 [] (fun ve E' H' _ => R (.returned (evV E' (fun _ => 0) ve)) H') := by
  unfold runsTo at h
  split at h
  · rename_i outs ho
    refine run_sound htab fm [] [] outs [] S0 S0 (fun _ => 0) [] ho ⟨rfl, fun i a ha => by simp at ha, PH.le_refl _, fun k row hk => by simp at hk, fun i j hi => by simp at hi, fun i k ha => by simp at ha⟩ (PH.le_refl _) fun o hm => ?_
    have h1 := List.all_eq_true.1 h o hm
    unfold retIs at h1
    split at h1
    · intro ve E' S' H' r' L' ss hS hSH hq hss hv
      obtain ⟨v, h2, h3⟩ := hv.2 0 _ rfl
      have hl := hv.1
      simp only [RelV] at h3
      rw [PV.same_eq h1] at h3
      cases ve with
      | junk => cases hss
      | sc s =>
        cases hss
        simp only [List.map_cons, List.map_nil, List.getElem?_cons_zero, Option.some.injEq] at h2
        show R (.returned (ev0 E' s)) H'
        rw [h2]; exact hR H' v (PH.le_trans hS hSH) (PV.Rep.le hSH h3)
      | ag cs => cases hq
      | tu l => cases hq
    · cases h1
  · cases h
instance encPrim : Enc (List UInt8 × List Int) := ⟨fun x => [.str x.1, slp x.2], 2, fun _ => rfl⟩
theorem tabNil {P : Program} {S0 : PH} : TabOk P S0 [] := fun c hc => by cases hc
theorem rows_run : runsTo Try.prog [] fm_scrimshawref08_Rows (slp rowsX) = true := by kernel_rfl
theorem Rows_tri (S : PH) : Tri Try.prog n_scrimshawref08_Rows #[] S fun x S' => PH.le S S' ∧ ∃ v, x = .returned v ∧ SlR S' rowsX v :=
  tri_scrimshawref08_Rows [] (H := S) (R := fun x S' => PH.le S S' ∧ ∃ v, x = .returned v ∧ SlR S' rowsX v) (by kernel_rfl) (by kernel_rfl)
    (runs_to (R := fun x S' => PH.le S S' ∧ ∃ v, x = .returned v ∧ SlR S' rowsX v) tabNil rows_run fun H' v hl hv => ⟨hl, v, rfl, hv⟩)
theorem prim_iff {H : PH} {x : List UInt8 × List Int} {cs : List Value} : CsR H x cs ↔ ∃ v, cs = [txt x.1, v] ∧ x.1.length ≤ maxLen ∧ SlR H x.2 v := by
  show PV.RepRow H [.str x.1, slp x.2] cs ↔ _
  simp only [PV.RepRow, repS_iff]
  constructor
  · rintro ⟨v1, _, rfl, ⟨rfl, h1⟩, v2, _, rfl, h2, rfl⟩
    exact ⟨v2, rfl, h1, h2⟩
  · rintro ⟨v, rfl, h1, h2⟩
    exact ⟨_, _, rfl, ⟨rfl, h1⟩, v, _, rfl, h2, rfl⟩

/-! ### two values compared -/
section
variable {P : Program} {Ψ : Value → PH → Prop} {H : PH}
theorem wpS_guardEq {op : BinOp} {t : TypeId} {x y : Operand} {u v : Array Value} (hop : op = .eql ∨ op = .neq) (hg : P.eqGuardType P.depth t = false) {Ξ : Unit → PH → Prop} : wpS P (eqGuard op t x y (.agg u) (.agg v)) Ξ Ψ H = Ξ () H := by
  rcases hop with rfl | rfl
  · show wpS P (if (!P.eqGuardType P.depth t) = true then _ else _) Ξ Ψ H = _
    rw [if_pos (by rw [hg]; rfl)]; rfl
  · show wpS P (if (!P.eqGuardType P.depth t) = true then _ else _) Ξ Ψ H = _
    rw [if_pos (by rw [hg]; rfl)]; rfl
theorem den_eqlStruct {X : List PanicEntry → PH → Prop} {β : Type} {E : List Value} {L : LK} {K : β → List Value → PH → LK → Prop} {t U ty : TypeId} {fs : List Field} {asu bs : List Value} {x y : Operand} {args : List (Nat × VE)} {k : Fm β} (ht : P.underlying t = some (.struct fs.toArray)) (hheld : P.stoodInHeld t = false) (hg : P.eqGuardType P.depth t = false) (ho : OffB 0 fs = true)
    (hx : argEv E args x = .agg asu.toArray) (hy : argEv E args y = .agg bs.toArray) (hf : FitB P fs asu bs = true) (hk : den P X k (E ++ [.bool (eqCells asu bs)]) H L K) : den P X (.sem (.binOp .eql t x y U) ty args (.sc .bool) [] k) E H L K := by
  show wpS P (execOp (argEv E args) (bare _ ty)) _ _ H
  rw [exec_binOp, hx, hy, wpS_guardEq (.inl rfl) hg]
  show wpS P (do pure (Value.bool (← Op.equal t (.agg asu.toArray) (.agg bs.toArray))) : Sem Value) _ _ H
  rw [wpS_bind']
  show wpS P (Op.equalIn (9998 + 2) t _ _) _ _ H
  rw [wpS_equalStruct ht hheld ho hf]
  exact ⟨[_], rfl, rfl, pendNil, hk⟩
end
noncomputable def valFields : Array Field := match Try.prog.underlying 73 with
  | some (.struct fs) => fs
  | _ => #[]
theorem uValS : Try.prog.underlying 73 = some (.struct valFields.toList.toArray) := by kernel_rfl
theorem heldValS : Try.prog.stoodInHeld 73 = false := by kernel_rfl
theorem guardValS : Try.prog.eqGuardType Try.prog.depth 73 = false := by kernel_rfl
theorem offValS : OffB 0 valFields.toList = true := by kernel_rfl
theorem fitValS (a b : VX) : FitB Try.prog valFields.toList (valVs a) (valVs b) = true := by kernel_rfl
theorem eqVal (a b : VX) : eqCells (valVs a) (valVs b) = decide (a = b) := by
  obtain ⟨k, i, s⟩ := a
  obtain ⟨k', i', s'⟩ := b
  have : eqCells (valVs ⟨k, i, s⟩) (valVs ⟨k', i', s'⟩) = (decide (k = k') && (decide (i = i') && (decide (s = s') && true))) := by
    have e : ((⟨s.toArray⟩ : ByteArray) == ⟨s'.toArray⟩) = decide (s = s') := by
      show (s.toArray == s'.toArray) = _
      rw [Bool.eq_iff_iff, beq_iff_eq, decide_eq_true_eq]
      exact ⟨fun h => List.toArray_inj h, fun h => by rw [h]⟩
    simp [eqCells, eqCell, txt, e]
    rw [show (k == k') = decide (k = k') from rfl, show (i == i') = decide (i = i') from rfl]
  rw [this]
  by_cases h1 : k = k' <;> by_cases h2 : i = i' <;> by_cases h3 : s = s' <;> simp [h1, h2, h3]
theorem den_eqlVal {X : List PanicEntry → PH → Prop} {β : Type} {E : List Value} {L : LK} {K : β → List Value → PH → LK → Prop} {H : PH} {U ty : TypeId} {a b : VX} {x y : Operand} {args : List (Nat × VE)} {k : Fm β} (hx : argEv E args x = valV a) (hy : argEv E args y = valV b) (hk : den Try.prog X k (E ++ [.bool (decide (a = b))]) H L K) : den Try.prog X (.sem (.binOp .eql 73 x y U) ty args (.sc .bool) [] k) E H L K :=
  den_eqlStruct uValS heldValS guardValS offValS hx hy (fitValS a b) (by rw [eqVal]; exact hk)
end Go.Proofs.Ytcfgpbmcgmkmhaa.Vc
/-
 HEAP: a primitive done, in memory.
-/
namespace Go.Proofs.Ytcfgpbmcgmkmhaa.Vc
open Go

/-! ### what a primitive's arguments are -/
theorem rows_uniq : (rowsX.all fun r => decide ((rowsX.find? fun x => decide (x.1 = r.1)) = some r)) = true := by decide +kernel
theorem rows_at {s : List UInt8} {i : Nat} {r : List UInt8 × List Int} (hi : rowsX[i]? = some r) (hs : r.1 = s) : (rowsX.find? fun x => decide (x.1 = s)) = some r := by
 have := List.all_eq_true.1 rows_uniq r (List.mem_of_getElem? hi)
 rw [← hs]; exact of_decide_eq_true this
theorem rows_none {s : List UInt8} (h : ∀ r ∈ rowsX, r.1 ≠ s) : (rowsX.find? fun x => decide (x.1 = s)) = none := by
 rw [List.find?_eq_none]
 intro x hx; simpa using h x hx
structure ArgsK (h : HX) (ks : List Int) (args : List VX) : Prop where
 len : ks.length = args.length
 may : ∀ v ∈ args, mayV h.length v = true
 kind : ∀ (i : Nat) k v, ks[i]? = some k → args[i]? = some v → kOk h k v = true
theorem ArgsK.at_ {h : HX} {ks : List Int} {args : List VX} (a : ArgsK h ks args) {i : Nat} {k : Int} (hk : ks[i]? = some k) : mayV h.length (args.getD i vNone) = true ∧ kOk h k (args.getD i vNone) = true := by
 have hl := (List.getElem?_eq_some_iff.1 hk).1
 have hv : args[i]? = some (args[i]'(by rw [← a.len]; exact hl)) := List.getElem?_eq_getElem _
 rw [List.getD_eq_getElem?_getD, hv]
 exact ⟨a.may _ (List.getElem_mem _), a.kind i k _ hk hv⟩
theorem num_arg {h : HX} {n : Nat} {v : VX} (hm : mayV n v = true ∧ kOk h 1 v = true) : isNum v.int = true := by
 obtain ⟨hm, hk⟩ := hm
 have hk : v.kind = 1 := by simpa [kOk] using hk
 unfold mayV at hm
 split at hm
 ·cases hm
 ·simpa [hk] using hm
theorem may_ref {n : Nat} {v : VX} (hm : mayV n v = true) (h8 : v.kind = 8) : 0 ≤ v.int ∧ v.int < (n : Int) := by
 unfold mayV at hm
 split at hm
 ·cases hm
 ·simpa [h8] using hm
theorem thing_arg {h : HX} {k : Int} {v : VX} (hk : 10 ≤ k) (hm : mayV h.length v = true ∧ kOk h k v = true) : 0 ≤ v.int ∧ v.int < (h.length : Int) := by
 obtain ⟨hm, ho⟩ := hm
 refine may_ref hm ?_
 unfold kOk at ho
 rw [if_pos hk] at ho
 have ho := of_decide_eq_true ho
 unfold thingK at ho
 split at ho
 ·omega
 ·rename_i h8; exact Decidable.not_not.1 h8
section
variable {h : HX} {s : List UInt8} {args : List VX} {r : List UInt8 × List Int}
theorem doX_none (hf : (rowsX.find? fun x => decide (x.1 = s)) = none) : doX h s args = (h, vNone, 1) := by
 unfold doX; rw [hf]
theorem doX_len' (hf : (rowsX.find? fun x => decide (x.1 = s)) = some r) (hl : r.2.length ≠ args.length) : doX h s args = (h, vNone, 1) := by
 unfold doX; rw [hf]; simp only [if_pos hl]
theorem doX_may (hf : (rowsX.find? fun x => decide (x.1 = s)) = some r) (hl : r.2.length = args.length) {v : VX} (hv : v ∈ args) (hm : mayV h.length v = false) : doX h s args = (h, vNone, 1) := by
 have : args.all (mayV h.length) = false := by
  rw [List.all_eq_false]; exact ⟨v, hv, by simp [hm]⟩
 unfold doX; rw [hf]; simp only [if_neg (fun hh : r.2.length ≠ args.length => hh hl), this]; rfl
theorem doX_kind (hf : (rowsX.find? fun x => decide (x.1 = s)) = some r) (hl : r.2.length = args.length) (hm : ∀ v ∈ args, mayV h.length v = true) {i : Nat} {k : Int} {v : VX} (hk : r.2[i]? = some k) (hv : args[i]? = some v) (hn : kOk h k v = false) : doX h s args = (h, vNone, 80) := by
 have h1 : args.all (mayV h.length) = true := List.all_eq_true.2 hm
 have h2 : ((r.2.zip args).all fun x => kOk h x.1 x.2) = false := by
  rw [List.all_eq_false]
  exact ⟨(k, v), List.mem_of_getElem? (i := i) (by rw [List.getElem?_zip_eq_some]; exact ⟨hk, hv⟩), by simp [hn]⟩
 unfold doX; rw [hf]; simp only [if_neg (fun hh : r.2.length ≠ args.length => hh hl), h1, h2]; rfl
theorem doX_act (hf : (rowsX.find? fun x => decide (x.1 = s)) = some r) (ha : ArgsK h r.2 args) : doX h s args = actX h s args := by
 have h1 : args.all (mayV h.length) = true := List.all_eq_true.2 ha.may
 have h2 : ((r.2.zip args).all fun x => kOk h x.1 x.2) = true := by
  rw [List.all_eq_true]
  rintro ⟨k, v⟩ hx
  obtain ⟨i, hi⟩ := List.getElem?_of_mem hx
  rw [List.getElem?_zip_eq_some] at hi
  exact ha.kind i k v hi.1 hi.2
 unfold doX; rw [hf]; simp only [if_neg (fun hh : r.2.length ≠ args.length => hh ha.len), h1, h2]; rfl
end
theorem reckonedX_fst (h : HX) (op : Nat) (a b : VX) : (reckonedX h op a b).1 = h := by
 unfold reckonedX; simp only
 split
 ·rfl
 ·split <;> rfl
theorem val_fit {H : PH} {l : List VX} {v : Value} (h : SlR H l v) {x : VX} (hx : x ∈ l) : VFit x := by
 obtain ⟨i, hi⟩ := List.getElem?_of_mem hx
 obtain ⟨_, _, cs, h1, _⟩ := h.get hi
 exact (val_cs h1).2
theorem fit_none : VFit vNone := by unfold VFit vNone InI maxLen; simp
theorem fit_getD {l : List VX} (h : ∀ x ∈ l, VFit x) (i : Nat) : VFit (l.getD i vNone) := by
 rw [List.getD_eq_getElem?_getD]
 cases hi : l[i]? with
 | none => exact fit_none
 | some x => exact h x (List.mem_of_getElem? hi)

theorem Do8_tri (hr : Nat) (L : List (TR × List VX)) (thv : Value) (s : List UInt8) (args : List VX) (av : Value) (S K : PH) (hK : Held S K (heapI hr L thv)) (ha : SlR S args av) (ok : HeapOk (hpX L)) (hL : L.length ≤ 16777216) :
  HpTo n_scrimshawref08_Heap__Do #[pAt hr, txt s, av] S K hr (doX (hpX L) s args).1 (.tuple #[valV (doX (hpX L) s args).2.1, .int .i64 (doX (hpX L) s args).2.2]) := by
 obtain ⟨ab, ac, rfl⟩ := ha.sl
 have hamax := ha.max
 have hmx : maxLen = 9223372036854775807 := rfl
 refine tri_scrimshawref08_Heap__Do [pAt hr, txt s, .slice ab args.length ac] (by kernel_rfl) (by kernel_rfl) ?_
 refine den_call cb_scrimshawref08_Rows (hK.pure (R := fun e S' => ∃ v, e = .returned v ∧ SlR S' rowsX v) (Rows_tri S)) ?_
 rintro x K1 ⟨S1, l1, h1, rv, rfl, hv⟩
 have ha1 := ha.le l1
 obtain ⟨rb, rc, rfl⟩ := hv.sl
 refine ⟨_, [.slice rb rowsX.length rc], rfl, rfl, rfl, pendNil, ?_⟩
 simp only [cns]
 have hrl : rowsX.length = 38 := rfl
 generalize hRL : rowsX.length = RL at *
 -- the row of that name
 refine ⟨fun n vs K => ∃ (k : Nat) (at_ : Int), k + n = RL ∧ vs = [.int .i64 at_, nI k] ∧ K = K1 ∧ ((at_ = -1 ∧ ∀ r ∈ rowsX.take k, r.1 ≠ s) ∨ ∃ (i : Nat) (r : List UInt8 × List Int), at_ = (i : Int) ∧ rowsX[i]? = some r ∧ r.1 = s),
  ⟨RL, 0, -1, by omega, rfl, rfl, .inl ⟨rfl, by simp⟩⟩, ?_⟩
 rintro n vs K2 _ ⟨k, at_, hkn, rfl, rfl, hat⟩
 simp only [cns]
 refine ⟨fun g => ?_, fun g => ?_⟩
 ·simp only [evs, evb, decide_eq_true_eq] at g
  obtain ⟨r, hr1⟩ : ∃ r, rowsX[k]? = some r := ⟨_, List.getElem?_eq_getElem (by omega)⟩
  obtain ⟨x1, _, cs, x2, x3⟩ := hv.get hr1
  obtain ⟨v2, rfl, x4, x5⟩ := prim_iff.1 x2
  refine ⟨fun _ => ?_, [txt r.1], rfl, ?_, _, lookup_hit, n - 1, by omega, k + 1, if r.1 = s then (k : Int) else at_, by omega, ?_, rfl, ?_⟩
  ·simp only [Chk.holds, evs, evb]; exact ⟨x1, by omega, by omega⟩
  ·simp only [evs, evb]; exact rowAt_le h1.sh (row_first x3)
  ·have hw : IntKind.i64.wrap ((k : Int) + 1) = ((k + 1 : Nat) : Int) := by rw [w64 (by omega) (by omega)]; rfl
   simp only [evs, evb, txt_eql, hw]
   by_cases e : r.1 = s <;> simp [e]
  ·by_cases e : r.1 = s
   ·rw [if_pos e]; exact .inr ⟨k, r, rfl, hr1, e⟩
   ·rw [if_neg e]
    rcases hat with ⟨rfl, hn⟩ | hat
    ·refine .inl ⟨rfl, fun r' hr' => ?_⟩
     rw [List.take_add_one, List.mem_append] at hr'
     rcases hr' with hr' | hr'
     ·exact hn r' hr'
     ·rw [hr1] at hr'
      rw [List.mem_singleton.1 hr']; exact e
    ·exact .inr hat
 simp only [evs, evb, decide_eq_false_iff_not] at g
 have hk38 : k = RL := by omega
 have stop : ∀ {K5 : PH}, Held S1 K5 (heapI hr L thv) → ∀ {v : VX} {e : Int}, doX (hpX L) s args = (hpX L, v, e) → ∃ S' J', PH.le S S' ∧ Held S' K5 J' ∧ HpR hr (doX (hpX L) s args).1 (.tuple #[valV (doX (hpX L) s args).2.1, .int .i64 (doX (hpX L) s args).2.2]) (.returned (.tuple #[valV v, .int .i64 e])) S' J' := fun h5 _ _ he => by
  rw [he]; exact ⟨S1, _, l1, h5, rfl, L, thv, rfl, rfl⟩
 refine ⟨fun vs K => K = K2 ∧ ((vs = [.bool true] ∧ doX (hpX L) s args = (hpX L, vNone, 1)) ∨ (vs = [.bool false] ∧ ∃ (i : Nat) (r : List UInt8 × List Int), at_ = (i : Int) ∧ rowsX[i]? = some r ∧ (rowsX.find? fun x => decide (x.1 = s)) = some r ∧ r.2.length = args.length)), ?_, ?_⟩
 rotate_left
 ·rcases hat with ⟨rfl, hn⟩ | ⟨i, r, rfl, hr1, hr2⟩
  ·have hf := doX_none (h := hpX L) (args := args) (rows_none (s := s) fun r hr' => hn r (by rw [List.take_of_length_le (by omega)]; exact hr'))
   refine ⟨fun hh => by simp [Guard.holds, evs, evb] at hh, fun hh => by simp [Guard.holds, evs, evb] at hh, fun _ => ⟨_, lookup_hit, rfl, .inl ⟨rfl, hf⟩⟩, fun g2 => by simp [evs, evb] at g2⟩
  ·have hf := rows_at hr1 hr2
   have hil := (List.getElem?_eq_some_iff.1 hr1).1
   obtain ⟨x1, xn, cs, x2, x3⟩ := hv.get hr1
   obtain ⟨v2, rfl, x4, x5⟩ := prim_iff.1 x2
   obtain ⟨b2, c2, rfl⟩ := x5.sl
   refine ⟨fun hh => ?_, fun hh => ?_, fun g2 => ?_, fun g2 => ⟨[.slice b2 r.2.length c2], rfl, ?_, _, lookup_hit, rfl, ?_⟩⟩
   ·simp only [Chk.holds, evs, evb]; exact ⟨x1, by omega, by omega⟩
   ·simp only [Chk.holds, evs, evb]; exact xn
   ·simp only [evs, evb, decide_eq_true_eq] at g2; omega
   ·simp only [evs, evb]; exact rowAt_le h1.sh (row_second x3)
   ·by_cases e : r.2.length = args.length
    ·exact .inr ⟨by simp [evs, evb, e], i, r, rfl, hr1, hf, e⟩
    ·exact .inl ⟨by simp [evs, evb]; omega, doX_len' hf e⟩
 rintro vs K3 _ ⟨rfl, hJ⟩
 rcases hJ with ⟨rfl, hf⟩ | ⟨rfl, i, r, rfl, hr1, hf, hlen⟩
 ·exact ⟨fun _ => stop h1 hf, fun g2 => by simp [evs, evb] at g2⟩
 refine ⟨fun g2 => by simp [evs, evb] at g2, fun _ => ?_⟩
 clear hat g hkn hk38
 simp only [cns]
 have hil := (List.getElem?_eq_some_iff.1 hr1).1
 -- may all be?
 refine ⟨fun n vs K => ∃ (k : Nat), k + n = args.length ∧ vs = [.int .i64 0, nI k, .int .i64 0, .int .i64 0, txt []] ∧ Held S1 K (heapI hr L thv) ∧ ∀ v ∈ args.take k, mayV (hpX L).length v = true,
  ⟨args.length, 0, by omega, rfl, h1, by simp⟩, ?_⟩
 rintro n vs K4 _ ⟨k, hkn, rfl, h4, hmay⟩
 simp only [cns]
 refine ⟨fun g => ?_, fun g => ?_⟩
 ·simp only [evs, evb, decide_eq_true_eq] at g
  obtain ⟨v, hv1⟩ : ∃ v, args[k]? = some v := ⟨_, List.getElem?_eq_getElem (by omega)⟩
  obtain ⟨x1, _, cs, x2, x3⟩ := ha1.get hv1
  obtain ⟨rfl, x4⟩ := val_cs x2
  refine ⟨fun _ => ?_, valVs v, rfl, ?_, ?_⟩
  ·simp only [Chk.holds, evs, evb]; exact ⟨x1, by omega, by omega⟩
  ·simp only [evs, evb]; exact rowAt_le h4.sh x3
  simp only [cns]
  refine den_gives [.bool (mayV (hpX L).length v)] cb_scrimshawref08_Heap__May (May8_gives (hpX L) hr v x4 K4 (heap_at (I := []) (held_nil h4))) rfl pendNil fun K5 l5 => ?_
  refine ⟨fun g2 => ?_, fun g2 => ?_⟩
  ·simp only [evs, evb, Bool.not_eq_true'] at g2
   exact stop (h4.le l5) (doX_may hf hlen (List.mem_of_getElem? hv1) g2)
  ·simp only [evs, evb, Bool.not_eq_false'] at g2
   refine ⟨_, lookup_hit, n - 1, by omega, k + 1, by omega, ?_, h4.le l5, ?_⟩
   ·have hw : IntKind.i64.wrap ((k : Int) + 1) = ((k + 1 : Nat) : Int) := by rw [w64 (by omega) (by omega)]; rfl
    simp only [evs, evb, hw]
   ·intro v' hv'
    rw [List.take_add_one, List.mem_append, hv1] at hv'
    rcases hv' with hv' | hv'
    ·exact hmay v' hv'
    ·rw [List.mem_singleton.1 hv']; exact g2
 simp only [evs, evb, decide_eq_false_iff_not] at g
 have hmay : ∀ v ∈ args, mayV (hpX L).length v = true := fun v hv' => hmay v (by rw [List.take_of_length_le (by omega)]; exact hv')
 clear hkn g
 -- is each of its kind?
 refine ⟨fun n vs K => ∃ (k0 : Nat), k0 + n = args.length ∧ vs = [.int .i64 0, nI k0, .int .i64 0, .int .i64 0, txt []] ∧ Held S1 K (heapI hr L thv) ∧ ∀ (j : Nat) kk v, j < k0 → r.2[j]? = some kk → args[j]? = some v → kOk (hpX L) kk v = true,
  ⟨args.length, 0, by omega, rfl, h4, fun j _ _ hj => absurd hj (by omega)⟩, ?_⟩
 rintro n vs K5 _ ⟨k0, hkn, rfl, h5, hkind⟩
 simp only [cns]
 refine ⟨fun g => ?_, fun g => ?_⟩
 ·simp only [evs, evb, decide_eq_true_eq] at g
  obtain ⟨v, hv1⟩ : ∃ v, args[k0]? = some v := ⟨_, List.getElem?_eq_getElem (by omega)⟩
  obtain ⟨kk, hk1⟩ : ∃ kk, r.2[k0]? = some kk := ⟨_, List.getElem?_eq_getElem (by omega)⟩
  obtain ⟨y1, yn, cs, y2, y3⟩ := ha1.get hv1
  obtain ⟨rfl, y4⟩ := val_cs y2
  obtain ⟨x1, xn, cs, x2, x3⟩ := hv.get hr1
  obtain ⟨v2, rfl, x4, x5⟩ := prim_iff.1 x2
  obtain ⟨b2, c2, rfl⟩ := x5.sl
  obtain ⟨z1, _, cs, z2, z3⟩ := x5.get hk1
  obtain ⟨rfl, z4⟩ := csIK z2
  refine ⟨fun _ => ?_, [.slice b2 r.2.length c2], rfl, ?_, fun _ => ?_, [.int .i64 kk], rfl, ?_, ?_⟩
  ·simp only [Chk.holds, evs, evb]; exact ⟨x1, by omega, by omega⟩
  ·simp only [evs, evb]; exact rowAt_le h5.sh (row_second x3)
  ·simp only [Chk.holds, evs, evb]; exact ⟨z1, by omega, by omega⟩
  ·simp only [evs, evb]; exact rowAt_le h5.sh z3
  simp only [cns]
  refine ⟨fun vs K => vs = [.bool (!kOk (hpX L) kk v)] ∧ Held S1 K (heapI hr L thv), ?_, fun _ => ?_, fun g2 => ?_, fun g2 => ?_⟩
  ·rintro vs K6 _ ⟨rfl, h6⟩
   refine ⟨fun g2 => ?_, fun g2 => ?_⟩
   ·simp only [evs, evb, Bool.not_eq_true'] at g2
    exact stop h6 (doX_kind hf hlen hmay hk1 hv1 g2)
   ·simp only [evs, evb, Bool.not_eq_false'] at g2
    refine ⟨_, lookup_hit, n - 1, by omega, k0 + 1, by omega, ?_, h6, ?_⟩
    ·have hw : IntKind.i64.wrap ((k0 : Int) + 1) = ((k0 + 1 : Nat) : Int) := by rw [w64 (by omega) (by omega)]; rfl
     simp only [evs, evb, hw]
    ·intro j kk' v' hj hk2 hv2
     rcases Nat.lt_succ_iff_lt_or_eq.1 hj with hj | rfl
     ·exact hkind j kk' v' hj hk2 hv2
     ·rw [hk1] at hk2; rw [hv1] at hv2
      cases hk2; cases hv2; exact g2
  ·simp only [Chk.holds, evs, evb]; exact ⟨y1, by omega, by omega⟩
  ·simp only [evs, evb, ge_iff_le, decide_eq_true_eq] at g2
   refine ⟨valVs v, rfl, by simp only [evs, evb]; exact rowAt_le h5.sh y3, ?_⟩
   simp only [cns]
   refine den_gives [.int .i64 (thingK (hpX L) v)] cb_scrimshawref08_Heap__Kind (Kind8_gives (hpX L) hr v (hmay v (List.mem_of_getElem? hv1)) K5 (heap_at (I := []) (held_nil h5))) rfl pendNil fun K6 l6 => ?_
   have hw : IntKind.i64.wrap (kk - 10) = kk - 10 := by have := z4; unfold InI at this; exact w64 (by omega) (by omega)
   have hkk : kOk (hpX L) kk v = decide (thingK (hpX L) v = kk - 10) := by unfold kOk; rw [if_pos g2]
   refine ⟨fun _ => ?_, fun _ => ?_, fun g3 => ?_, fun g3 => ⟨fun g4 => ?_, fun g4 => ?_⟩⟩
   ·simp only [Chk.holds, evs, evb]; exact ⟨y1, by omega, by omega⟩
   ·simp only [Chk.holds, evs, evb]; exact yn
   ·simp only [evs, evb, hw, decide_eq_true_eq] at g3
    exact ⟨_, lookup_hit, by simp [evs, evb, hkk, g3], h5.le l6⟩
   ·exfalso
    simp only [evs, evb] at g4
    simp only [Bool.and_eq_true, decide_eq_true_eq] at g4
    omega
   ·simp only [evs, evb, hw, decide_eq_false_iff_not, ne_eq, Decidable.not_not] at g3
    exact ⟨_, lookup_hit, by simp [evs, evb, hkk, g3], h5.le l6⟩
  ·simp only [evs, evb, ge_iff_le, decide_eq_false_iff_not] at g2
   refine ⟨fun _ => ?_, fun _ => ?_, fun g3 => ?_, fun g3 => ?_⟩
   ·simp only [Chk.holds, evs, evb]; exact ⟨y1, by omega, by omega⟩
   ·simp only [Chk.holds, evs, evb]; exact yn
   ·simp only [evs, evb] at g3
    simp only [Bool.and_eq_true, decide_eq_true_eq, ge_iff_le] at g3
    have hkk : kOk (hpX L) kk v = decide (v.kind = kk) := by unfold kOk; rw [if_neg g2, if_pos g3.1]
    refine ⟨[.int .i64 v.kind], rfl, ?_, _, lookup_hit, ?_, h5⟩
    ·simp only [evs, evb]
     exact rowAt_le h5.sh (rowAt_sub y3 0 1)
    ·by_cases e : v.kind = kk <;> simp [evs, evb, hkk, e]
   ·simp only [evs, evb] at g3
    simp only [Bool.and_eq_false_iff, decide_eq_false_iff_not, ge_iff_le] at g3
    have hkk : kOk (hpX L) kk v = true := by unfold kOk; rw [if_neg g2, if_neg (by omega)]
    exact ⟨_, lookup_hit, by simp [evs, evb, hkk], h5⟩
 simp only [evs, evb, decide_eq_false_iff_not] at g
 have hak : ArgsK (hpX L) r.2 args := ⟨hlen, hmay, fun j kk v hj hv' => hkind j kk v (by have := (List.getElem?_eq_some_iff.1 hv').1; omega) hj hv'⟩
 have hdo := doX_act hf hak
 have hfit : ∀ i, VFit (args.getD i vNone) := fit_getD fun x hx => val_fit ha1 hx
 clear hkind hmay h4 h1
 have get : ∀ (j : Nat), j < args.length → (ab.isSome = true) ∧ rowAt K5 (pOf (eltV (.slice ab args.length ac) (j : Int) 3)) (valVs (args.getD j vNone)) := fun j hj => by
  obtain ⟨v, hv1⟩ : ∃ v, args[j]? = some v := ⟨_, List.getElem?_eq_getElem hj⟩
  obtain ⟨y1, yn, cs, y2, y3⟩ := ha1.get hv1
  obtain ⟨rfl, y4⟩ := val_cs y2
  rw [List.getD_eq_getElem?_getD, hv1]
  exact ⟨y1, rowAt_le h5.sh y3⟩
 have over : ∀ (j : Nat), args.length ≤ j → args.getD j vNone = vNone := fun j hj => by
  rw [List.getD_eq_getElem?_getD, List.getElem?_eq_none hj]; rfl
 have hat5 := heap_at (I := []) (held_nil h5)
 refine ⟨fun vs K => vs = valVs (args.getD 0 vNone) ∧ K5 = K, ?_, fun g2 => ?_, fun g2 => ?_⟩
 rotate_left
 ·simp only [evs, evb, decide_eq_true_eq] at g2
  obtain ⟨y1, y3⟩ := get 0 (by omega)
  refine ⟨fun _ => ?_, valVs (args.getD 0 vNone), rfl, by simp only [evs, evb]; exact y3, _, lookup_hit, rfl, rfl⟩
  simp only [Chk.holds, evs, evb]; exact ⟨y1, by omega, by omega⟩
 ·simp only [evs, evb, decide_eq_false_iff_not] at g2
  exact ⟨_, lookup_hit, by rw [over 0 (by omega)]; rfl, rfl⟩
 rintro vs K _ ⟨rfl, rfl⟩
 simp only [cns]
 refine ⟨fun vs K => vs = valVs (args.getD 1 vNone) ∧ K5 = K, ?_, fun g2 => ?_, fun g2 => ?_⟩
 rotate_left
 ·simp only [evs, evb, decide_eq_true_eq] at g2
  obtain ⟨y1, y3⟩ := get 1 (by omega)
  refine ⟨fun _ => ?_, valVs (args.getD 1 vNone), rfl, by simp only [evs, evb]; exact y3, _, lookup_hit, rfl, rfl⟩
  simp only [Chk.holds, evs, evb]; exact ⟨y1, by omega, by omega⟩
 ·simp only [evs, evb, decide_eq_false_iff_not] at g2
  exact ⟨_, lookup_hit, by rw [over 1 (by omega)]; rfl, rfl⟩
 rintro vs K _ ⟨rfl, rfl⟩
 simp only [cns]
 refine ⟨fun vs K => vs = valVs (args.getD 2 vNone) ∧ K5 = K, ?_, fun g2 => ?_, fun g2 => ?_⟩
 rotate_left
 ·simp only [evs, evb, decide_eq_true_eq] at g2
  obtain ⟨y1, y3⟩ := get 2 (by omega)
  refine ⟨fun _ => ?_, valVs (args.getD 2 vNone), rfl, by simp only [evs, evb]; exact y3, _, lookup_hit, rfl, rfl⟩
  simp only [Chk.holds, evs, evb]; exact ⟨y1, by omega, by omega⟩
 ·simp only [evs, evb, decide_eq_false_iff_not] at g2
  exact ⟨_, lookup_hit, by rw [over 2 (by omega)]; rfl, rfl⟩
 rintro vs K _ ⟨rfl, rfl⟩
 simp only [cns]
 obtain ⟨A, hA⟩ : ∃ A, args.getD 0 vNone = A := ⟨_, rfl⟩
 obtain ⟨B, hB⟩ : ∃ B, args.getD 1 vNone = B := ⟨_, rfl⟩
 obtain ⟨C, hC⟩ : ∃ C, args.getD 2 vNone = C := ⟨_, rfl⟩
 have fA := hfit 0
 have fB := hfit 1
 have fC := hfit 2
 rw [hA] at fA
 rw [hB] at fB
 rw [hC] at fC
 simp only [hA, hB, hC]
 refine ⟨fun gg => ?_, fun gg => ?_⟩
 ·simp only [evs, evb, txt_eql, decide_eq_true_eq] at gg
  subst gg
  obtain rfl : ([43], [1, 1]) = r := Option.some.inj (Eq.trans (by kernel_rfl) hf)
  have q0 := num_arg (hak.at_ (i := 0) (k := 1) rfl)
  have q1 := num_arg (hak.at_ (i := 1) (k := 1) rfl)
  rw [hA] at q0
  rw [hB] at q1
  have hact : doX (hpX L) [43] args = reckonedX (hpX L) 0 A B := by rw [hdo, ← hA, ← hB]; rfl
  refine den_call cb_scrimshawref08_reckoned (reckoned_gives 0 (by omega) A B (hpX L) q0 q1 K5) ?_
  rintro x K6 ⟨rfl, l6⟩
  exact ⟨_, valVs (reckonedX (hpX L) 0 A B).2.1 ++ [Value.int .i64 (reckonedX (hpX L) 0 A B).2.2], rfl, rfl, rfl, pendNil, stop (h5.le l6) (hact.trans (Prod.ext (reckonedX_fst ..) rfl))⟩
 simp only [evs, evb, txt_eql, decide_eq_false_iff_not] at gg
 refine ⟨fun gg => ?_, fun gg => ?_⟩
 ·simp only [evs, evb, txt_eql, decide_eq_true_eq] at gg
  subst gg
  obtain rfl : ([45], [1, 1]) = r := Option.some.inj (Eq.trans (by kernel_rfl) hf)
  have q0 := num_arg (hak.at_ (i := 0) (k := 1) rfl)
  have q1 := num_arg (hak.at_ (i := 1) (k := 1) rfl)
  rw [hA] at q0
  rw [hB] at q1
  have hact : doX (hpX L) [45] args = reckonedX (hpX L) 1 A B := by rw [hdo, ← hA, ← hB]; rfl
  refine den_call cb_scrimshawref08_reckoned (reckoned_gives 1 (by omega) A B (hpX L) q0 q1 K5) ?_
  rintro x K6 ⟨rfl, l6⟩
  exact ⟨_, valVs (reckonedX (hpX L) 1 A B).2.1 ++ [Value.int .i64 (reckonedX (hpX L) 1 A B).2.2], rfl, rfl, rfl, pendNil, stop (h5.le l6) (hact.trans (Prod.ext (reckonedX_fst ..) rfl))⟩
 simp only [evs, evb, txt_eql, decide_eq_false_iff_not] at gg
 refine ⟨fun gg => ?_, fun gg => ?_⟩
 ·simp only [evs, evb, txt_eql, decide_eq_true_eq] at gg
  subst gg
  obtain rfl : ([42], [1, 1]) = r := Option.some.inj (Eq.trans (by kernel_rfl) hf)
  have q0 := num_arg (hak.at_ (i := 0) (k := 1) rfl)
  have q1 := num_arg (hak.at_ (i := 1) (k := 1) rfl)
  rw [hA] at q0
  rw [hB] at q1
  have hact : doX (hpX L) [42] args = reckonedX (hpX L) 2 A B := by rw [hdo, ← hA, ← hB]; rfl
  refine den_call cb_scrimshawref08_reckoned (reckoned_gives 2 (by omega) A B (hpX L) q0 q1 K5) ?_
  rintro x K6 ⟨rfl, l6⟩
  exact ⟨_, valVs (reckonedX (hpX L) 2 A B).2.1 ++ [Value.int .i64 (reckonedX (hpX L) 2 A B).2.2], rfl, rfl, rfl, pendNil, stop (h5.le l6) (hact.trans (Prod.ext (reckonedX_fst ..) rfl))⟩
 simp only [evs, evb, txt_eql, decide_eq_false_iff_not] at gg
 refine ⟨fun gg => ?_, fun gg => ?_⟩
 ·simp only [evs, evb, txt_eql, decide_eq_true_eq] at gg
  subst gg
  obtain rfl : ([113, 117, 111, 116, 105, 101, 110, 116], [1, 1]) = r := Option.some.inj (Eq.trans (by kernel_rfl) hf)
  have q0 := num_arg (hak.at_ (i := 0) (k := 1) rfl)
  have q1 := num_arg (hak.at_ (i := 1) (k := 1) rfl)
  rw [hA] at q0
  rw [hB] at q1
  have hact : doX (hpX L) [113, 117, 111, 116, 105, 101, 110, 116] args = reckonedX (hpX L) 3 A B := by rw [hdo, ← hA, ← hB]; rfl
  refine den_call cb_scrimshawref08_reckoned (reckoned_gives 3 (by omega) A B (hpX L) q0 q1 K5) ?_
  rintro x K6 ⟨rfl, l6⟩
  exact ⟨_, valVs (reckonedX (hpX L) 3 A B).2.1 ++ [Value.int .i64 (reckonedX (hpX L) 3 A B).2.2], rfl, rfl, rfl, pendNil, stop (h5.le l6) (hact.trans (Prod.ext (reckonedX_fst ..) rfl))⟩
 simp only [evs, evb, txt_eql, decide_eq_false_iff_not] at gg
 refine ⟨fun gg => ?_, fun gg => ?_⟩
 ·simp only [evs, evb, txt_eql, decide_eq_true_eq] at gg
  subst gg
  obtain rfl : ([114, 101, 109, 97, 105, 110, 100, 101, 114], [1, 1]) = r := Option.some.inj (Eq.trans (by kernel_rfl) hf)
  have q0 := num_arg (hak.at_ (i := 0) (k := 1) rfl)
  have q1 := num_arg (hak.at_ (i := 1) (k := 1) rfl)
  rw [hA] at q0
  rw [hB] at q1
  have hact : doX (hpX L) [114, 101, 109, 97, 105, 110, 100, 101, 114] args = reckonedX (hpX L) 4 A B := by rw [hdo, ← hA, ← hB]; rfl
  refine den_call cb_scrimshawref08_reckoned (reckoned_gives 4 (by omega) A B (hpX L) q0 q1 K5) ?_
  rintro x K6 ⟨rfl, l6⟩
  exact ⟨_, valVs (reckonedX (hpX L) 4 A B).2.1 ++ [Value.int .i64 (reckonedX (hpX L) 4 A B).2.2], rfl, rfl, rfl, pendNil, stop (h5.le l6) (hact.trans (Prod.ext (reckonedX_fst ..) rfl))⟩
 simp only [evs, evb, txt_eql, decide_eq_false_iff_not] at gg
 refine ⟨fun gg => ?_, fun gg => ?_⟩
 ·simp only [evs, evb, txt_eql, decide_eq_true_eq] at gg
  subst gg
  obtain rfl : ([60], [1, 1]) = r := Option.some.inj (Eq.trans (by kernel_rfl) hf)
  have hact : doX (hpX L) [60] args = (hpX L, vTruth (decide (A.int < B.int)), 0) := by rw [hdo, ← hA, ← hB]; rfl
  refine den_gives (valVs (vTruth (decide (A.int < B.int)))) cb_scrimshawref08_truth (truth_gives (decide (A.int < B.int)) K5) rfl pendNil fun K6 l6 => ?_
  exact stop (h5.le l6) hact
 simp only [evs, evb, txt_eql, decide_eq_false_iff_not] at gg
 refine ⟨fun gg => ?_, fun gg => ?_⟩
 ·have gg : s = [61] ∨ s = [101, 113, 63] := by
   simp only [evs, evb, txt_eql] at gg
   by_cases e : s = [61]
   ·exact .inl e
   ·simp only [e, decide_false, Bool.false_eq_true, if_false, decide_eq_true_eq] at gg; exact .inr gg
  rcases gg with rfl | rfl
  ·obtain rfl : ([61], [1, 1]) = r := Option.some.inj (Eq.trans (by kernel_rfl) hf)
   have hact : doX (hpX L) [61] args = (hpX L, vTruth (decide (A = B)), 0) := by rw [hdo, ← hA, ← hB]; rfl
   refine den_eqlVal (a := A) (b := B) (by kernel_rfl) (by kernel_rfl) ?_
   refine den_gives (valVs (vTruth (decide (A = B)))) cb_scrimshawref08_truth (truth_gives (decide (A = B)) K5) rfl pendNil fun K6 l6 => ?_
   exact stop (h5.le l6) hact
  ·obtain rfl : ([101, 113, 63], [-1, -1]) = r := Option.some.inj (Eq.trans (by kernel_rfl) hf)
   have hact : doX (hpX L) [101, 113, 63] args = (hpX L, vTruth (decide (A = B)), 0) := by rw [hdo, ← hA, ← hB]; rfl
   refine den_eqlVal (a := A) (b := B) (by kernel_rfl) (by kernel_rfl) ?_
   refine den_gives (valVs (vTruth (decide (A = B)))) cb_scrimshawref08_truth (truth_gives (decide (A = B)) K5) rfl pendNil fun K6 l6 => ?_
   exact stop (h5.le l6) hact
 have gg : ¬ (s = [61] ∨ s = [101, 113, 63]) := by
  simp only [evs, evb, txt_eql] at gg
  by_cases e : s = [61]
  ·simp [e] at gg
  ·simpa [e] using gg
 refine ⟨fun gg => ?_, fun gg => ?_⟩
 ·simp only [evs, evb, txt_eql, decide_eq_true_eq] at gg
  subst gg
  obtain rfl : ([110, 117, 108, 108, 63], [-1]) = r := Option.some.inj (Eq.trans (by kernel_rfl) hf)
  have hact : doX (hpX L) [110, 117, 108, 108, 63] args = (hpX L, vTruth (decide (A.kind = 4)), 0) := by rw [hdo, ← hA]; rfl
  refine den_gives (valVs (vTruth (decide (A.kind = 4)))) cb_scrimshawref08_truth (truth_gives (decide (A.kind = 4)) K5) rfl pendNil fun K6 l6 => ?_
  exact stop (h5.le l6) hact
 simp only [evs, evb, txt_eql, decide_eq_false_iff_not] at gg
 refine ⟨fun gg => ?_, fun gg => ?_⟩
 ·simp only [evs, evb, txt_eql, decide_eq_true_eq] at gg
  subst gg
  obtain rfl : ([115, 121, 109, 98, 111, 108, 63], [-1]) = r := Option.some.inj (Eq.trans (by kernel_rfl) hf)
  have hact : doX (hpX L) [115, 121, 109, 98, 111, 108, 63] args = (hpX L, vTruth (decide (A.kind = 3)), 0) := by rw [hdo, ← hA]; rfl
  refine den_gives (valVs (vTruth (decide (A.kind = 3)))) cb_scrimshawref08_truth (truth_gives (decide (A.kind = 3)) K5) rfl pendNil fun K6 l6 => ?_
  exact stop (h5.le l6) hact
 simp only [evs, evb, txt_eql, decide_eq_false_iff_not] at gg
 refine ⟨fun gg => ?_, fun gg => ?_⟩
 ·simp only [evs, evb, txt_eql, decide_eq_true_eq] at gg
  subst gg
  obtain rfl : ([99, 104, 97, 114, 63], [-1]) = r := Option.some.inj (Eq.trans (by kernel_rfl) hf)
  have hact : doX (hpX L) [99, 104, 97, 114, 63] args = (hpX L, vTruth (decide (A.kind = 2)), 0) := by rw [hdo, ← hA]; rfl
  refine den_gives (valVs (vTruth (decide (A.kind = 2)))) cb_scrimshawref08_truth (truth_gives (decide (A.kind = 2)) K5) rfl pendNil fun K6 l6 => ?_
  exact stop (h5.le l6) hact
 simp only [evs, evb, txt_eql, decide_eq_false_iff_not] at gg
 refine ⟨fun gg => ?_, fun gg => ?_⟩
 ·simp only [evs, evb, txt_eql, decide_eq_true_eq] at gg
  subst gg
  obtain rfl : ([105, 110, 116, 101, 103, 101, 114, 63], [-1]) = r := Option.some.inj (Eq.trans (by kernel_rfl) hf)
  have hact : doX (hpX L) [105, 110, 116, 101, 103, 101, 114, 63] args = (hpX L, vTruth (decide (A.kind = 1)), 0) := by rw [hdo, ← hA]; rfl
  refine den_gives (valVs (vTruth (decide (A.kind = 1)))) cb_scrimshawref08_truth (truth_gives (decide (A.kind = 1)) K5) rfl pendNil fun K6 l6 => ?_
  exact stop (h5.le l6) hact
 simp only [evs, evb, txt_eql, decide_eq_false_iff_not] at gg
 refine ⟨fun gg => ?_, fun gg => ?_⟩
 ·simp only [evs, evb, txt_eql, decide_eq_true_eq] at gg
  subst gg
  obtain rfl : ([98, 111, 111, 108, 101, 97, 110, 63], [-1]) = r := Option.some.inj (Eq.trans (by kernel_rfl) hf)
  have hact : doX (hpX L) [98, 111, 111, 108, 101, 97, 110, 63] args = (hpX L, vTruth (decide (A.kind = 0)), 0) := by rw [hdo, ← hA]; rfl
  refine den_gives (valVs (vTruth (decide (A.kind = 0)))) cb_scrimshawref08_truth (truth_gives (decide (A.kind = 0)) K5) rfl pendNil fun K6 l6 => ?_
  exact stop (h5.le l6) hact
 simp only [evs, evb, txt_eql, decide_eq_false_iff_not] at gg
 refine ⟨fun gg => ?_, fun gg => ?_⟩
 ·simp only [evs, evb, txt_eql, decide_eq_true_eq] at gg
  subst gg
  obtain rfl : ([101, 111, 102, 45, 111, 98, 106, 101, 99, 116, 63], [-1]) = r := Option.some.inj (Eq.trans (by kernel_rfl) hf)
  have hact : doX (hpX L) [101, 111, 102, 45, 111, 98, 106, 101, 99, 116, 63] args = (hpX L, vTruth (decide (A.kind = 6)), 0) := by rw [hdo, ← hA]; rfl
  refine den_gives (valVs (vTruth (decide (A.kind = 6)))) cb_scrimshawref08_truth (truth_gives (decide (A.kind = 6)) K5) rfl pendNil fun K6 l6 => ?_
  exact stop (h5.le l6) hact
 simp only [evs, evb, txt_eql, decide_eq_false_iff_not] at gg
 refine ⟨fun gg => ?_, fun gg => ?_⟩
 ·simp only [evs, evb, txt_eql, decide_eq_true_eq] at gg
  subst gg
  obtain rfl : ([112, 97, 105, 114, 63], [-1]) = r := Option.some.inj (Eq.trans (by kernel_rfl) hf)
  have q0 := (hak.at_ (i := 0) (k := -1) rfl).1
  rw [hA] at q0
  have hact : doX (hpX L) [112, 97, 105, 114, 63] args = (hpX L, vTruth (decide (thingK (hpX L) A = 0)), 0) := by rw [hdo, ← hA]; rfl
  refine den_gives [.int .i64 (thingK (hpX L) A)] cb_scrimshawref08_Heap__Kind (Kind8_gives (hpX L) hr A q0 K5 hat5) rfl pendNil fun K6 l6 => ?_
  refine den_gives (valVs (vTruth (decide (thingK (hpX L) A = 0)))) cb_scrimshawref08_truth (truth_gives (decide (thingK (hpX L) A = 0)) K6) rfl pendNil fun K7 l7 => ?_
  exact stop (h5.le (PH.le_trans l6 l7)) hact
 simp only [evs, evb, txt_eql, decide_eq_false_iff_not] at gg
 refine ⟨fun gg => ?_, fun gg => ?_⟩
 ·simp only [evs, evb, txt_eql, decide_eq_true_eq] at gg
  subst gg
  obtain rfl : ([118, 101, 99, 116, 111, 114, 63], [-1]) = r := Option.some.inj (Eq.trans (by kernel_rfl) hf)
  have q0 := (hak.at_ (i := 0) (k := -1) rfl).1
  rw [hA] at q0
  have hact : doX (hpX L) [118, 101, 99, 116, 111, 114, 63] args = (hpX L, vTruth (decide (thingK (hpX L) A = 1)), 0) := by rw [hdo, ← hA]; rfl
  refine den_gives [.int .i64 (thingK (hpX L) A)] cb_scrimshawref08_Heap__Kind (Kind8_gives (hpX L) hr A q0 K5 hat5) rfl pendNil fun K6 l6 => ?_
  refine den_gives (valVs (vTruth (decide (thingK (hpX L) A = 1)))) cb_scrimshawref08_truth (truth_gives (decide (thingK (hpX L) A = 1)) K6) rfl pendNil fun K7 l7 => ?_
  exact stop (h5.le (PH.le_trans l6 l7)) hact
 simp only [evs, evb, txt_eql, decide_eq_false_iff_not] at gg
 refine ⟨fun gg => ?_, fun gg => ?_⟩
 ·simp only [evs, evb, txt_eql, decide_eq_true_eq] at gg
  subst gg
  obtain rfl : ([115, 116, 114, 105, 110, 103, 63], [-1]) = r := Option.some.inj (Eq.trans (by kernel_rfl) hf)
  have q0 := (hak.at_ (i := 0) (k := -1) rfl).1
  rw [hA] at q0
  have hact : doX (hpX L) [115, 116, 114, 105, 110, 103, 63] args = (hpX L, vTruth (decide (thingK (hpX L) A = 2)), 0) := by rw [hdo, ← hA]; rfl
  refine den_gives [.int .i64 (thingK (hpX L) A)] cb_scrimshawref08_Heap__Kind (Kind8_gives (hpX L) hr A q0 K5 hat5) rfl pendNil fun K6 l6 => ?_
  refine den_gives (valVs (vTruth (decide (thingK (hpX L) A = 2)))) cb_scrimshawref08_truth (truth_gives (decide (thingK (hpX L) A = 2)) K6) rfl pendNil fun K7 l7 => ?_
  exact stop (h5.le (PH.le_trans l6 l7)) hact
 simp only [evs, evb, txt_eql, decide_eq_false_iff_not] at gg
 refine ⟨fun gg => ?_, fun gg => ?_⟩
 ·simp only [evs, evb, txt_eql, decide_eq_true_eq] at gg
  subst gg
  obtain rfl : ([112, 114, 111, 99, 101, 100, 117, 114, 101, 63], [-1]) = r := Option.some.inj (Eq.trans (by kernel_rfl) hf)
  have q0 := (hak.at_ (i := 0) (k := -1) rfl).1
  rw [hA] at q0
  have hact : doX (hpX L) [112, 114, 111, 99, 101, 100, 117, 114, 101, 63] args = (hpX L, vTruth (decide (thingK (hpX L) A = 4)), 0) := by rw [hdo, ← hA]; rfl
  refine den_gives [.int .i64 (thingK (hpX L) A)] cb_scrimshawref08_Heap__Kind (Kind8_gives (hpX L) hr A q0 K5 hat5) rfl pendNil fun K6 l6 => ?_
  refine den_gives (valVs (vTruth (decide (thingK (hpX L) A = 4)))) cb_scrimshawref08_truth (truth_gives (decide (thingK (hpX L) A = 4)) K6) rfl pendNil fun K7 l7 => ?_
  exact stop (h5.le (PH.le_trans l6 l7)) hact
 simp only [evs, evb, txt_eql, decide_eq_false_iff_not] at gg
 refine ⟨fun gg => ?_, fun gg => ?_⟩
 ·simp only [evs, evb, txt_eql, decide_eq_true_eq] at gg
  subst gg
  obtain rfl : ([99, 111, 110, 115], [-1, -1]) = r := Option.some.inj (Eq.trans (by kernel_rfl) hf)
  have hact : doX (hpX L) [99, 111, 110, 115] args = ((addX (hpX L) 0 args).1, (addX (hpX L) 0 args).2, 0) := by rw [hdo]; rfl
  have hlen : 2 = args.length := hlen
  refine den_call cb_scrimshawref08_Heap__add (add8_tri hr L thv 0 args (.slice ab args.length ac) S1 K5 h5 ha1 (by unfold InI; omega) hL (by omega)) ?_
  rintro x K6 ⟨S2, J2, l2, h2, rfl, L', thv', rfl, hh⟩
  refine ⟨_, valVs (addX (hpX L) 0 args).2, rfl, rfl, rfl, pendNil, ?_⟩
  rw [hact]
  exact ⟨S2, _, PH.le_trans l1 l2, h2, rfl, L', thv', rfl, hh⟩
 simp only [evs, evb, txt_eql, decide_eq_false_iff_not] at gg
 refine ⟨fun gg => ?_, fun gg => ?_⟩
 ·simp only [evs, evb, txt_eql, decide_eq_true_eq] at gg
  subst gg
  obtain rfl : ([37, 98, 111, 120], [-1]) = r := Option.some.inj (Eq.trans (by kernel_rfl) hf)
  have hact : doX (hpX L) [37, 98, 111, 120] args = ((addX (hpX L) 3 args).1, (addX (hpX L) 3 args).2, 0) := by rw [hdo]; rfl
  have hlen : 1 = args.length := hlen
  refine den_call cb_scrimshawref08_Heap__add (add8_tri hr L thv 3 args (.slice ab args.length ac) S1 K5 h5 ha1 (by unfold InI; omega) hL (by omega)) ?_
  rintro x K6 ⟨S2, J2, l2, h2, rfl, L', thv', rfl, hh⟩
  refine ⟨_, valVs (addX (hpX L) 3 args).2, rfl, rfl, rfl, pendNil, ?_⟩
  rw [hact]
  exact ⟨S2, _, PH.le_trans l1 l2, h2, rfl, L', thv', rfl, hh⟩
 simp only [evs, evb, txt_eql, decide_eq_false_iff_not] at gg
 refine ⟨fun gg => ?_, fun gg => ?_⟩
 ·simp only [evs, evb, txt_eql, decide_eq_true_eq] at gg
  subst gg
  obtain rfl : ([109, 97, 107, 101, 45, 118, 101, 99, 116, 111, 114], [1, -1]) = r := Option.some.inj (Eq.trans (by kernel_rfl) hf)
  have hact : doX (hpX L) [109, 97, 107, 101, 45, 118, 101, 99, 116, 111, 114] args = filledX (hpX L) 1 A.int B := by rw [hdo, ← hA, ← hB]; rfl
  refine den_call cb_scrimshawref08_Heap__filled (filled8_tri hr L thv 1 A.int B S1 K5 h5 fB (by unfold InI; omega) hL) ?_
  rintro x K6 ⟨S2, J2, l2, h2, rfl, L', thv', rfl, hh⟩
  refine ⟨_, valVs (filledX (hpX L) 1 A.int B).2.1 ++ [Value.int .i64 (filledX (hpX L) 1 A.int B).2.2], rfl, rfl, rfl, pendNil, ?_⟩
  rw [hact]
  exact ⟨S2, _, PH.le_trans l1 l2, h2, rfl, L', thv', rfl, hh⟩
 simp only [evs, evb, txt_eql, decide_eq_false_iff_not] at gg
 refine ⟨fun gg => ?_, fun gg => ?_⟩
 ·simp only [evs, evb, txt_eql, decide_eq_true_eq] at gg
  subst gg
  obtain rfl : ([109, 97, 107, 101, 45, 115, 116, 114, 105, 110, 103], [1, 2]) = r := Option.some.inj (Eq.trans (by kernel_rfl) hf)
  have hact : doX (hpX L) [109, 97, 107, 101, 45, 115, 116, 114, 105, 110, 103] args = filledX (hpX L) 2 A.int B := by rw [hdo, ← hA, ← hB]; rfl
  refine den_call cb_scrimshawref08_Heap__filled (filled8_tri hr L thv 2 A.int B S1 K5 h5 fB (by unfold InI; omega) hL) ?_
  rintro x K6 ⟨S2, J2, l2, h2, rfl, L', thv', rfl, hh⟩
  refine ⟨_, valVs (filledX (hpX L) 2 A.int B).2.1 ++ [Value.int .i64 (filledX (hpX L) 2 A.int B).2.2], rfl, rfl, rfl, pendNil, ?_⟩
  rw [hact]
  exact ⟨S2, _, PH.le_trans l1 l2, h2, rfl, L', thv', rfl, hh⟩
 simp only [evs, evb, txt_eql, decide_eq_false_iff_not] at gg
 refine ⟨fun gg => ?_, fun gg => ?_⟩
 ·have gg : s = [118, 101, 99, 116, 111, 114, 45, 108, 101, 110, 103, 116, 104] ∨ s = [115, 116, 114, 105, 110, 103, 45, 108, 101, 110, 103, 116, 104] := by
   simp only [evs, evb, txt_eql] at gg
   by_cases e : s = [118, 101, 99, 116, 111, 114, 45, 108, 101, 110, 103, 116, 104]
   ·exact .inl e
   ·simp only [e, decide_false, Bool.false_eq_true, if_false, decide_eq_true_eq] at gg; exact .inr gg
  rcases gg with rfl | rfl
  ·obtain rfl : ([118, 101, 99, 116, 111, 114, 45, 108, 101, 110, 103, 116, 104], [11]) = r := Option.some.inj (Eq.trans (by kernel_rfl) hf)
   have q0 := thing_arg (by decide) (hak.at_ (i := 0) (k := 11) rfl)
   rw [hA] at q0
   have hact : doX (hpX L) [118, 101, 99, 116, 111, 114, 45, 108, 101, 110, 103, 116, 104] args = (hpX L, vNum ((hpX L).getD A.int.toNat default).parts.length, 0) := by rw [hdo, ← hA]; rfl
   obtain ⟨thv5, hr5, hs5⟩ := hat5
   obtain ⟨tb, tc, rfl⟩ := hs5.sl
   obtain ⟨j, hj⟩ : ∃ j : Nat, A.int = (j : Int) := ⟨A.int.toNat, by omega⟩
   obtain ⟨t, ht⟩ : ∃ t, (hpX L)[j]? = some t := ⟨_, List.getElem?_eq_getElem (by omega)⟩
   obtain ⟨hsome, pv, h44, h55, h66⟩ := heap_get hs5 ht
   have hgd : (hpX L).getD A.int.toNat default = t := by rw [hj, Int.toNat_natCast, List.getD_eq_getElem?_getD, ht]; rfl
   obtain ⟨pb, pc, rfl⟩ := h55.sl
   rw [hgd] at hact
   refine ⟨fun _ => by simp [Chk.holds, evs, evb], [.slice tb (hpX L).length tc], rfl, by simp only [evs, evb]; exact hr5, fun _ => ?_, [.slice pb t.parts.length pc], rfl, ?_, ?_⟩
   ·simp only [Chk.holds, evs, evb]; exact ⟨hsome, by omega, by omega⟩
   ·simp only [evs, evb, hj]; exact row_second h66
   refine den_gives (valVs (vNum t.parts.length)) cb_scrimshawref08_num (num_gives t.parts.length K5) rfl pendNil fun K6 l6 => ?_
   exact stop (h5.le l6) hact
  ·obtain rfl : ([115, 116, 114, 105, 110, 103, 45, 108, 101, 110, 103, 116, 104], [12]) = r := Option.some.inj (Eq.trans (by kernel_rfl) hf)
   have q0 := thing_arg (by decide) (hak.at_ (i := 0) (k := 12) rfl)
   rw [hA] at q0
   have hact : doX (hpX L) [115, 116, 114, 105, 110, 103, 45, 108, 101, 110, 103, 116, 104] args = (hpX L, vNum ((hpX L).getD A.int.toNat default).parts.length, 0) := by rw [hdo, ← hA]; rfl
   obtain ⟨thv5, hr5, hs5⟩ := hat5
   obtain ⟨tb, tc, rfl⟩ := hs5.sl
   obtain ⟨j, hj⟩ : ∃ j : Nat, A.int = (j : Int) := ⟨A.int.toNat, by omega⟩
   obtain ⟨t, ht⟩ : ∃ t, (hpX L)[j]? = some t := ⟨_, List.getElem?_eq_getElem (by omega)⟩
   obtain ⟨hsome, pv, h44, h55, h66⟩ := heap_get hs5 ht
   have hgd : (hpX L).getD A.int.toNat default = t := by rw [hj, Int.toNat_natCast, List.getD_eq_getElem?_getD, ht]; rfl
   obtain ⟨pb, pc, rfl⟩ := h55.sl
   rw [hgd] at hact
   refine ⟨fun _ => by simp [Chk.holds, evs, evb], [.slice tb (hpX L).length tc], rfl, by simp only [evs, evb]; exact hr5, fun _ => ?_, [.slice pb t.parts.length pc], rfl, ?_, ?_⟩
   ·simp only [Chk.holds, evs, evb]; exact ⟨hsome, by omega, by omega⟩
   ·simp only [evs, evb, hj]; exact row_second h66
   refine den_gives (valVs (vNum t.parts.length)) cb_scrimshawref08_num (num_gives t.parts.length K5) rfl pendNil fun K6 l6 => ?_
   exact stop (h5.le l6) hact
 have gg : ¬ (s = [118, 101, 99, 116, 111, 114, 45, 108, 101, 110, 103, 116, 104] ∨ s = [115, 116, 114, 105, 110, 103, 45, 108, 101, 110, 103, 116, 104]) := by
  simp only [evs, evb, txt_eql] at gg
  by_cases e : s = [118, 101, 99, 116, 111, 114, 45, 108, 101, 110, 103, 116, 104]
  ·simp [e] at gg
  ·simpa [e] using gg
 refine ⟨fun gg => ?_, fun gg => ?_⟩
 ·have gg : s = [99, 97, 114] ∨ s = [37, 117, 110, 98, 111, 120] := by
   simp only [evs, evb, txt_eql] at gg
   by_cases e : s = [99, 97, 114]
   ·exact .inl e
   ·simp only [e, decide_false, Bool.false_eq_true, if_false, decide_eq_true_eq] at gg; exact .inr gg
  rcases gg with rfl | rfl
  ·obtain rfl : ([99, 97, 114], [10]) = r := Option.some.inj (Eq.trans (by kernel_rfl) hf)
   have q0 := thing_arg (by decide) (hak.at_ (i := 0) (k := 10) rfl)
   rw [hA] at q0
   have hact : doX (hpX L) [99, 97, 114] args = (hpX L, getX (hpX L) A 0) := by rw [hdo, ← hA]; rfl
   refine den_call cb_scrimshawref08_Heap__get (get8_gives (hpX L) hr A 0 q0 K5 hat5) ?_
   rintro x K6 ⟨rfl, l6⟩
   exact ⟨_, valVs (getX (hpX L) A 0).1 ++ [Value.int .i64 (getX (hpX L) A 0).2], rfl, rfl, rfl, pendNil, stop (h5.le l6) hact⟩
  ·obtain rfl : ([37, 117, 110, 98, 111, 120], [13]) = r := Option.some.inj (Eq.trans (by kernel_rfl) hf)
   have q0 := thing_arg (by decide) (hak.at_ (i := 0) (k := 13) rfl)
   rw [hA] at q0
   have hact : doX (hpX L) [37, 117, 110, 98, 111, 120] args = (hpX L, getX (hpX L) A 0) := by rw [hdo, ← hA]; rfl
   refine den_call cb_scrimshawref08_Heap__get (get8_gives (hpX L) hr A 0 q0 K5 hat5) ?_
   rintro x K6 ⟨rfl, l6⟩
   exact ⟨_, valVs (getX (hpX L) A 0).1 ++ [Value.int .i64 (getX (hpX L) A 0).2], rfl, rfl, rfl, pendNil, stop (h5.le l6) hact⟩
 have gg : ¬ (s = [99, 97, 114] ∨ s = [37, 117, 110, 98, 111, 120]) := by
  simp only [evs, evb, txt_eql] at gg
  by_cases e : s = [99, 97, 114]
  ·simp [e] at gg
  ·simpa [e] using gg
 refine ⟨fun gg => ?_, fun gg => ?_⟩
 ·simp only [evs, evb, txt_eql, decide_eq_true_eq] at gg
  subst gg
  obtain rfl : ([99, 100, 114], [10]) = r := Option.some.inj (Eq.trans (by kernel_rfl) hf)
  have q0 := thing_arg (by decide) (hak.at_ (i := 0) (k := 10) rfl)
  rw [hA] at q0
  have hact : doX (hpX L) [99, 100, 114] args = (hpX L, getX (hpX L) A 1) := by rw [hdo, ← hA]; rfl
  refine den_call cb_scrimshawref08_Heap__get (get8_gives (hpX L) hr A 1 q0 K5 hat5) ?_
  rintro x K6 ⟨rfl, l6⟩
  exact ⟨_, valVs (getX (hpX L) A 1).1 ++ [Value.int .i64 (getX (hpX L) A 1).2], rfl, rfl, rfl, pendNil, stop (h5.le l6) hact⟩
 simp only [evs, evb, txt_eql, decide_eq_false_iff_not] at gg
 refine ⟨fun gg => ?_, fun gg => ?_⟩
 ·have gg : s = [118, 101, 99, 116, 111, 114, 45, 114, 101, 102] ∨ s = [115, 116, 114, 105, 110, 103, 45, 114, 101, 102] := by
   simp only [evs, evb, txt_eql] at gg
   by_cases e : s = [118, 101, 99, 116, 111, 114, 45, 114, 101, 102]
   ·exact .inl e
   ·simp only [e, decide_false, Bool.false_eq_true, if_false, decide_eq_true_eq] at gg; exact .inr gg
  rcases gg with rfl | rfl
  ·obtain rfl : ([118, 101, 99, 116, 111, 114, 45, 114, 101, 102], [11, 1]) = r := Option.some.inj (Eq.trans (by kernel_rfl) hf)
   have q0 := thing_arg (by decide) (hak.at_ (i := 0) (k := 11) rfl)
   rw [hA] at q0
   have hact : doX (hpX L) [118, 101, 99, 116, 111, 114, 45, 114, 101, 102] args = (hpX L, getX (hpX L) A B.int) := by rw [hdo, ← hA, ← hB]; rfl
   refine den_call cb_scrimshawref08_Heap__get (get8_gives (hpX L) hr A B.int q0 K5 hat5) ?_
   rintro x K6 ⟨rfl, l6⟩
   exact ⟨_, valVs (getX (hpX L) A B.int).1 ++ [Value.int .i64 (getX (hpX L) A B.int).2], rfl, rfl, rfl, pendNil, stop (h5.le l6) hact⟩
  ·obtain rfl : ([115, 116, 114, 105, 110, 103, 45, 114, 101, 102], [12, 1]) = r := Option.some.inj (Eq.trans (by kernel_rfl) hf)
   have q0 := thing_arg (by decide) (hak.at_ (i := 0) (k := 12) rfl)
   rw [hA] at q0
   have hact : doX (hpX L) [115, 116, 114, 105, 110, 103, 45, 114, 101, 102] args = (hpX L, getX (hpX L) A B.int) := by rw [hdo, ← hA, ← hB]; rfl
   refine den_call cb_scrimshawref08_Heap__get (get8_gives (hpX L) hr A B.int q0 K5 hat5) ?_
   rintro x K6 ⟨rfl, l6⟩
   exact ⟨_, valVs (getX (hpX L) A B.int).1 ++ [Value.int .i64 (getX (hpX L) A B.int).2], rfl, rfl, rfl, pendNil, stop (h5.le l6) hact⟩
 have gg : ¬ (s = [118, 101, 99, 116, 111, 114, 45, 114, 101, 102] ∨ s = [115, 116, 114, 105, 110, 103, 45, 114, 101, 102]) := by
  simp only [evs, evb, txt_eql] at gg
  by_cases e : s = [118, 101, 99, 116, 111, 114, 45, 114, 101, 102]
  ·simp [e] at gg
  ·simpa [e] using gg
 refine ⟨fun gg => ?_, fun gg => ?_⟩
 ·have gg : s = [115, 101, 116, 45, 99, 97, 114, 33] ∨ s = [37, 115, 101, 116, 45, 98, 111, 120, 33] := by
   simp only [evs, evb, txt_eql] at gg
   by_cases e : s = [115, 101, 116, 45, 99, 97, 114, 33]
   ·exact .inl e
   ·simp only [e, decide_false, Bool.false_eq_true, if_false, decide_eq_true_eq] at gg; exact .inr gg
  rcases gg with rfl | rfl
  ·obtain rfl : ([115, 101, 116, 45, 99, 97, 114, 33], [10, -1]) = r := Option.some.inj (Eq.trans (by kernel_rfl) hf)
   have q0 := thing_arg (by decide) (hak.at_ (i := 0) (k := 10) rfl)
   rw [hA] at q0
   have hact : doX (hpX L) [115, 101, 116, 45, 99, 97, 114, 33] args = putX (hpX L) A 0 B := by rw [hdo, ← hA, ← hB]; rfl
   refine den_call cb_scrimshawref08_Heap__put (put8_tri hr L thv A 0 B S1 K5 h5 (by simpa [hpX] using q0) fB) ?_
   rintro x K6 ⟨S2, J2, l2, h2, rfl, L', thv', rfl, hh⟩
   refine ⟨_, valVs (putX (hpX L) A 0 B).2.1 ++ [Value.int .i64 (putX (hpX L) A 0 B).2.2], rfl, rfl, rfl, pendNil, ?_⟩
   rw [hact]
   exact ⟨S2, _, PH.le_trans l1 l2, h2, rfl, L', thv', rfl, hh⟩
  ·obtain rfl : ([37, 115, 101, 116, 45, 98, 111, 120, 33], [13, -1]) = r := Option.some.inj (Eq.trans (by kernel_rfl) hf)
   have q0 := thing_arg (by decide) (hak.at_ (i := 0) (k := 13) rfl)
   rw [hA] at q0
   have hact : doX (hpX L) [37, 115, 101, 116, 45, 98, 111, 120, 33] args = putX (hpX L) A 0 B := by rw [hdo, ← hA, ← hB]; rfl
   refine den_call cb_scrimshawref08_Heap__put (put8_tri hr L thv A 0 B S1 K5 h5 (by simpa [hpX] using q0) fB) ?_
   rintro x K6 ⟨S2, J2, l2, h2, rfl, L', thv', rfl, hh⟩
   refine ⟨_, valVs (putX (hpX L) A 0 B).2.1 ++ [Value.int .i64 (putX (hpX L) A 0 B).2.2], rfl, rfl, rfl, pendNil, ?_⟩
   rw [hact]
   exact ⟨S2, _, PH.le_trans l1 l2, h2, rfl, L', thv', rfl, hh⟩
 have gg : ¬ (s = [115, 101, 116, 45, 99, 97, 114, 33] ∨ s = [37, 115, 101, 116, 45, 98, 111, 120, 33]) := by
  simp only [evs, evb, txt_eql] at gg
  by_cases e : s = [115, 101, 116, 45, 99, 97, 114, 33]
  ·simp [e] at gg
  ·simpa [e] using gg
 refine ⟨fun gg => ?_, fun gg => ?_⟩
 ·simp only [evs, evb, txt_eql, decide_eq_true_eq] at gg
  subst gg
  obtain rfl : ([115, 101, 116, 45, 99, 100, 114, 33], [10, -1]) = r := Option.some.inj (Eq.trans (by kernel_rfl) hf)
  have q0 := thing_arg (by decide) (hak.at_ (i := 0) (k := 10) rfl)
  rw [hA] at q0
  have hact : doX (hpX L) [115, 101, 116, 45, 99, 100, 114, 33] args = putX (hpX L) A 1 B := by rw [hdo, ← hA, ← hB]; rfl
  refine den_call cb_scrimshawref08_Heap__put (put8_tri hr L thv A 1 B S1 K5 h5 (by simpa [hpX] using q0) fB) ?_
  rintro x K6 ⟨S2, J2, l2, h2, rfl, L', thv', rfl, hh⟩
  refine ⟨_, valVs (putX (hpX L) A 1 B).2.1 ++ [Value.int .i64 (putX (hpX L) A 1 B).2.2], rfl, rfl, rfl, pendNil, ?_⟩
  rw [hact]
  exact ⟨S2, _, PH.le_trans l1 l2, h2, rfl, L', thv', rfl, hh⟩
 simp only [evs, evb, txt_eql, decide_eq_false_iff_not] at gg
 refine ⟨fun gg => ?_, fun gg => ?_⟩
 ·have gg : s = [118, 101, 99, 116, 111, 114, 45, 115, 101, 116, 33] ∨ s = [115, 116, 114, 105, 110, 103, 45, 115, 101, 116, 33] := by
   simp only [evs, evb, txt_eql] at gg
   by_cases e : s = [118, 101, 99, 116, 111, 114, 45, 115, 101, 116, 33]
   ·exact .inl e
   ·simp only [e, decide_false, Bool.false_eq_true, if_false, decide_eq_true_eq] at gg; exact .inr gg
  rcases gg with rfl | rfl
  ·obtain rfl : ([118, 101, 99, 116, 111, 114, 45, 115, 101, 116, 33], [11, 1, -1]) = r := Option.some.inj (Eq.trans (by kernel_rfl) hf)
   have q0 := thing_arg (by decide) (hak.at_ (i := 0) (k := 11) rfl)
   rw [hA] at q0
   have hact : doX (hpX L) [118, 101, 99, 116, 111, 114, 45, 115, 101, 116, 33] args = putX (hpX L) A B.int C := by rw [hdo, ← hA, ← hB, ← hC]; rfl
   refine den_call cb_scrimshawref08_Heap__put (put8_tri hr L thv A B.int C S1 K5 h5 (by simpa [hpX] using q0) fC) ?_
   rintro x K6 ⟨S2, J2, l2, h2, rfl, L', thv', rfl, hh⟩
   refine ⟨_, valVs (putX (hpX L) A B.int C).2.1 ++ [Value.int .i64 (putX (hpX L) A B.int C).2.2], rfl, rfl, rfl, pendNil, ?_⟩
   rw [hact]
   exact ⟨S2, _, PH.le_trans l1 l2, h2, rfl, L', thv', rfl, hh⟩
  ·obtain rfl : ([115, 116, 114, 105, 110, 103, 45, 115, 101, 116, 33], [12, 1, 2]) = r := Option.some.inj (Eq.trans (by kernel_rfl) hf)
   have q0 := thing_arg (by decide) (hak.at_ (i := 0) (k := 12) rfl)
   rw [hA] at q0
   have hact : doX (hpX L) [115, 116, 114, 105, 110, 103, 45, 115, 101, 116, 33] args = putX (hpX L) A B.int C := by rw [hdo, ← hA, ← hB, ← hC]; rfl
   refine den_call cb_scrimshawref08_Heap__put (put8_tri hr L thv A B.int C S1 K5 h5 (by simpa [hpX] using q0) fC) ?_
   rintro x K6 ⟨S2, J2, l2, h2, rfl, L', thv', rfl, hh⟩
   refine ⟨_, valVs (putX (hpX L) A B.int C).2.1 ++ [Value.int .i64 (putX (hpX L) A B.int C).2.2], rfl, rfl, rfl, pendNil, ?_⟩
   rw [hact]
   exact ⟨S2, _, PH.le_trans l1 l2, h2, rfl, L', thv', rfl, hh⟩
 have gg : ¬ (s = [118, 101, 99, 116, 111, 114, 45, 115, 101, 116, 33] ∨ s = [115, 116, 114, 105, 110, 103, 45, 115, 101, 116, 33]) := by
  simp only [evs, evb, txt_eql] at gg
  by_cases e : s = [118, 101, 99, 116, 111, 114, 45, 115, 101, 116, 33]
  ·simp [e] at gg
  ·simpa [e] using gg
 refine ⟨fun gg => ?_, fun gg => ?_⟩
 ·simp only [evs, evb, txt_eql, decide_eq_true_eq] at gg
  subst gg
  obtain rfl : ([99, 104, 97, 114, 45, 62, 105, 110, 116, 101, 103, 101, 114], [2]) = r := Option.some.inj (Eq.trans (by kernel_rfl) hf)
  have hact : doX (hpX L) [99, 104, 97, 114, 45, 62, 105, 110, 116, 101, 103, 101, 114] args = (hpX L, vNum A.int, 0) := by rw [hdo, ← hA]; rfl
  refine den_gives (valVs (vNum A.int)) cb_scrimshawref08_num (num_gives A.int K5) rfl pendNil fun K6 l6 => ?_
  exact stop (h5.le l6) hact
 simp only [evs, evb, txt_eql, decide_eq_false_iff_not] at gg
 refine ⟨fun gg => ?_, fun gg => ?_⟩
 ·simp only [evs, evb, txt_eql, decide_eq_true_eq] at gg
  subst gg
  obtain rfl : ([105, 110, 116, 101, 103, 101, 114, 45, 62, 99, 104, 97, 114], [1]) = r := Option.some.inj (Eq.trans (by kernel_rfl) hf)
  have hact : doX (hpX L) [105, 110, 116, 101, 103, 101, 114, 45, 62, 99, 104, 97, 114] args = (if A.int < 0 ∨ 255 < A.int then (hpX L, vNone, 83) else (hpX L, ⟨2, A.int, []⟩, 0)) := by rw [hdo, ← hA]; rfl
  refine ⟨fun g3 => ?_, fun g3 => ?_⟩
  ·simp only [evs, evb] at g3
   simp only [Bool.or_eq_true, decide_eq_true_eq] at g3
   exact stop h5 (hact.trans (if_pos (by omega)))
  ·simp only [evs, evb] at g3
   simp only [Bool.or_eq_false_iff, decide_eq_false_iff_not] at g3
   exact stop h5 (hact.trans (if_neg (by omega)))
 simp only [evs, evb, txt_eql, decide_eq_false_iff_not] at gg
 refine ⟨fun gg => ?_, fun gg => ?_⟩
 ·simp only [evs, evb, txt_eql, decide_eq_true_eq] at gg
  subst gg
  obtain rfl : ([37, 117, 110, 115, 101, 116], []) = r := Option.some.inj (Eq.trans (by kernel_rfl) hf)
  have hact : doX (hpX L) [37, 117, 110, 115, 101, 116] args = (hpX L, ⟨7, 0, []⟩, 0) := by rw [hdo]; rfl
  exact stop h5 hact
 simp only [evs, evb, txt_eql, decide_eq_false_iff_not] at gg
 have hact : doX (hpX L) s args = (hpX L, vVoid, 0) := by
  rw [hdo]
  unfold actX
  simp only
  repeat' (first | rfl | rw [if_neg (by assumption)])
 exact stop h5 hact
end Go.Proofs.Ytcfgpbmcgmkmhaa.Vc
/-
 HEAP: what a value shows; a constant's value.
-/
namespace Go.Proofs.Ytcfgpbmcgmkmhaa.Vc
open Go

/-! ### plainly -/
def nameX (k : Int) : List UInt8 := if k = 5 then [118, 111, 105, 100] else if k = 6 then [101, 111, 102] else [117, 110, 115, 101, 116]
def downX (deep : Int) (pair : Bool) (i : Nat) : Int := if pair && decide (i = 1) then deep else deep + 1
/-- the parts, one behind the other -/
def tellsX (tell : VX → Int → Int → Dat × Int × Bool) (deep : Int) (pair : Bool) : List VX → Nat → Int → List Dat → List Dat × Int × Bool
 | [], _, seen, acc => (acc, seen, true)
 | v :: l, i, seen, acc =>
  let r := tell v (downX deep pair i) seen
  if r.2.2 then tellsX tell deep pair l (i + 1) r.2.1 (acc ++ [r.1]) else (acc, r.2.1, false)
def tellStep (h : HX) (tell : VX → Int → Int → Dat × Int × Bool) (v : VX) (deep seen : Int) : Dat × Int × Bool :=
 if 200 ≤ seen ∨ 32 < deep then (dat0, seen, false)
 else if v.kind = 1 ∨ v.kind = 2 then (.mk v.kind v.int [] [], seen + 1, true)
 else if v.kind = 3 then (.mk 4 0 v.text [], seen + 1, true)
 else if v.kind = 4 then (.mk 5 0 [] [], seen + 1, true)
 else if v.kind = 5 ∨ v.kind = 6 ∨ v.kind = 7 then (.mk 4 0 (nameX v.kind) [], seen + 1, true)
 else if v.kind = 0 then (.mk 0 v.int [] [], seen + 1, true)
 else
  let t := h.getD v.int.toNat default
  if t.kind = 3 then (.mk 4 0 [98, 111, 120] [], seen + 1, true)
  else if t.kind = 4 then (.mk 4 0 [112, 114, 111, 99, 101, 100, 117, 114, 101] [], seen + 1, true)
  else if t.kind = 2 then (.mk 3 0 (t.parts.map fun p => byteOf p.int) [], seen + 1, true)
  else
   let r := tellsX tell deep (decide (t.kind = 0)) t.parts 0 (seen + 1) []
   if r.2.2 then (if t.kind = 0 then makeD (r.1.take 1) (r.1.getD 1 dat0) else .mk 7 0 [] r.1, r.2.1, true) else (dat0, r.2.1, false)
def tellX (h : HX) : Nat → VX → Int → Int → Dat × Int × Bool
 | 0 => fun _ _ seen => (dat0, seen, false)
 | f + 1 => tellStep h (tellX h f)
/-- what a value shows; false: too much -/
def tellV (h : HX) (v : VX) : Dat × Bool :=
 if !mayV h.length v then (dat0, false) else let r := tellX h 200 v 0 0; if r.2.2 then (r.1, true) else (dat0, false)
def constK (d : Dat) : VX :=
 if (d.chk 0 0).2 ≠ 0 then vNone
 else if d.kind = 0 ∨ d.kind = 1 ∨ d.kind = 2 then ⟨d.kind, d.int, []⟩
 else if d.kind = 4 then ⟨3, 0, d.text⟩
 else if d.kind = 5 ∧ d.list.isEmpty = true then ⟨4, 0, []⟩
 else vNone
def FewR (seen : Int) (r : Dat × Int × Bool) : Prop := seen ≤ r.2.1 ∧ r.2.1 ≤ 200 ∧ (r.2.2 = true → (r.1.cnt : Int) ≤ r.2.1 - seen)
def FewT (tell : VX → Int → Int → Dat × Int × Bool) : Prop := ∀ v deep seen, 0 ≤ seen → seen ≤ 200 → FewR seen (tell v deep seen)
theorem tellsX_few {tell : VX → Int → Int → Dat × Int × Bool} (ht : FewT tell) (deep : Int) (pair : Bool) : ∀ (l : List VX) (i : Nat) (seen : Int) (acc : List Dat), 0 ≤ seen → seen ≤ 200 →
  seen ≤ (tellsX tell deep pair l i seen acc).2.1 ∧ (tellsX tell deep pair l i seen acc).2.1 ≤ 200 ∧ ((tellsX tell deep pair l i seen acc).2.2 = true → (tellsX tell deep pair l i seen acc).1.length = acc.length + l.length ∧ (Dats.cnt (tellsX tell deep pair l i seen acc).1 : Int) ≤ Dats.cnt acc + ((tellsX tell deep pair l i seen acc).2.1 - seen))
 | [], i, seen, acc, h0, h1 => by simp only [tellsX]; exact ⟨Int.le_refl _, h1, fun _ => ⟨by simp, by omega⟩⟩
 | v :: l, i, seen, acc, h0, h1 => by
  obtain ⟨t1, t2, t3⟩ := ht v (downX deep pair i) seen h0 h1
  simp only [tellsX]
  split
  ·rename_i hr
   obtain ⟨q1, q2, q3⟩ := tellsX_few ht deep pair l (i + 1) _ (acc ++ [(tell v (downX deep pair i) seen).1]) (by omega) t2
   refine ⟨by omega, q2, fun hok => ?_⟩
   obtain ⟨q4, q5⟩ := q3 hok
   have t4 := t3 hr
   refine ⟨by rw [q4]; simp; omega, ?_⟩
   rw [Dats.cnt_append] at q5
   simp only [Dats.cnt] at q5
   omega
  ·exact ⟨t1, t2, fun hh => by cases hh⟩
theorem makeD_cnt (a b : Dat) : (makeD [a] b).cnt ≤ 1 + a.cnt + b.cnt := by
 unfold makeD
 rw [if_neg (by simp)]
 have hb := Dat.cnt_eq b
 split
 ·simp only [Dat.cnt, List.cons_append, List.nil_append, Dats.cnt]; omega
 ·simp only [Dat.cnt, List.cons_append, List.nil_append, Dats.cnt]; omega
theorem two_of {α : Type} {l : List α} (h : l.length = 2) : ∃ a b, l = [a, b] := by
 match l, h with
 | [a, b], _ => exact ⟨a, b, rfl⟩
theorem few_one {seen k n : Int} {t : List UInt8} (hs : seen < 200) : FewR seen (.mk k n t [], seen + 1, true) := by
 unfold FewR
 simp only [Dat.cnt, Dats.cnt]; omega
theorem few_ite {seen : Int} {p : Prop} [Decidable p] {a b : Dat × Int × Bool} (ha : p → FewR seen a) (hb : ¬ p → FewR seen b) : FewR seen (if p then a else b) := by
 by_cases h : p
 ·rw [if_pos h]; exact ha h
 ·rw [if_neg h]; exact hb h
theorem tellStep_few {h : HX} (ok : HeapOk h) {tell : VX → Int → Int → Dat × Int × Bool} (hfew : FewT tell) : FewT (tellStep h tell) := by
 intro v deep seen h0 h1
 unfold tellStep
 refine few_ite (fun _ => ⟨Int.le_refl _, h1, fun hh => by cases hh⟩) fun hs => ?_
 have hs : seen < 200 := by omega
 refine few_ite (fun _ => few_one hs) fun _ => few_ite (fun _ => few_one hs) fun _ => few_ite (fun _ => few_one hs) fun _ => few_ite (fun _ => few_one hs) fun _ => few_ite (fun _ => few_one hs) fun _ => ?_
 refine few_ite (fun _ => few_one hs) fun _ => few_ite (fun _ => few_one hs) fun _ => few_ite (fun _ => few_one hs) fun _ => ?_
 generalize ht : h.getD v.int.toNat default = t
 have hin : t ∈ h ∨ t = default := by
  rw [← ht, List.getD_eq_getElem?_getD]
  cases hx : h[v.int.toNat]? with
  | none => exact .inr rfl
  | some t => exact .inl (List.mem_of_getElem? hx)
 obtain ⟨q1, q2, q3⟩ := tellsX_few hfew deep (decide (t.kind = 0)) t.parts 0 (seen + 1) [] (by omega) (by omega)
 generalize hr : tellsX tell deep (decide (t.kind = 0)) t.parts 0 (seen + 1) [] = r at q1 q2 q3 ⊢
 obtain ⟨l, seen', okk⟩ := r
 cases okk with
 | false =>
  simp only at q1
  exact ⟨by show seen ≤ seen'; omega, q2, fun hh => by cases hh⟩
 | true =>
  obtain ⟨q4, q5⟩ := q3 rfl
  simp only [Dats.cnt, List.length_nil, Nat.zero_add] at q1 q2 q4 q5
  simp only [if_true]
  refine ⟨by show seen ≤ seen'; omega, q2, fun _ => ?_⟩
  show ((if t.kind = 0 then makeD (l.take 1) (l.getD 1 dat0) else Dat.mk 7 0 [] l).cnt : Int) ≤ seen' - seen
  split
  ·rename_i hk
   rcases hin with hin | rfl
   ·rw [ok.pair _ hin hk] at q4
    obtain ⟨a, b, rfl⟩ := two_of q4
    have := makeD_cnt a b
    simp only [List.take_succ_cons, List.take_zero, List.getD_cons_succ, List.getD_cons_zero]
    simp only [Dats.cnt] at q5
    omega
   ·obtain rfl : l = [] := List.length_eq_zero_iff.1 q4
    simp only [List.take_nil, List.getD_nil, makeD, List.length_nil, if_true, dat0, Dat.cnt, Dats.cnt]
    omega
  ·simp only [Dat.cnt]; omega
theorem tellX_few {h : HX} (ok : HeapOk h) : ∀ f, FewT (tellX h f)
 | 0 => fun v deep seen h0 h1 => ⟨Int.le_refl _, h1, fun hh => by cases hh⟩
 | f + 1 => tellStep_few ok (tellX_few ok f)

/-! ### bytes made a text -/
theorem den_bytesText {P : Program} {X : List PanicEntry → PH → Prop} {β : Type} {E : List Value} {H : PH} {L : LK} {K : β → List Value → PH → LK → Prop} {s t e ty : TypeId} {x : Operand} {args : List (Nat × VE)} {pend : List (SV × List SV)} {k : Fm β} {l : List UInt8} {v : Value}
  (hs : P.underlying s = some (.slice e)) (ht : P.underlying t = some .string) (he : P.underlying e = some (.int .u8)) (hx : argEv E args x = v) (h : SlR H l v) (hp : pendOk E H pend) (hk : den P X k (E ++ [txt l]) H L K) :
  den P X (.sem (.convert s t x) ty args (.sc .str) pend k) E H L K := by
 show wpS P (execOp (argEv E args) (bare _ ty)) _ _ H
 rw [exec_convert, hx]
 rcases (SlR.mk_iff.1 h).2 with ⟨rfl, rfl⟩ | ⟨a, c, rfl, h1, h2, h3⟩
 ·exact wpS_toText_nil hs ht he ⟨[_], rfl, rfl, hp, hk⟩
 ·refine wpS_toText hs ht he (fun j u hu => ?_) ⟨[_], rfl, rfl, hp, hk⟩
  rw [List.getElem?_map] at hu
  cases hb : l[j]? with
  | none => rw [hb] at hu; cases hu
  | some b =>
   rw [hb] at hu
   obtain ⟨cs, h4, h5⟩ := RepRows.get h3 hb
   obtain ⟨v1, _, rfl, h6, rfl⟩ := h4
   have := h5 0 v1 rfl
   have e1 : v1 = .int .u8 (b.toNat : Int) := h6.1
   rw [e1] at this
   cases hu
   have e2 : (a.add (j * sz UInt8)).add 0 = a.add j := by
    show Addr.add (Addr.add a (j * 1)) 0 = a.add j
    simp [Addr.add]
   rw [e2] at this
   exact this

/-! ### in memory -/
theorem elemByteK : ElemOk Try.prog 5 1 1 = true := by kernel_rfl
theorem uTxtsK : Try.prog.underlying 127 = some (.slice 9) := by kernel_rfl
theorem elemTxtK : ElemOk Try.prog 9 1 16 = true := by kernel_rfl
theorem csTxtK {H : PH} {l : List UInt8} {cs : List Value} (h : CsR H l cs) : cs = [txt l] ∧ l.length ≤ maxLen := by
 obtain ⟨v, rest, rfl, h1, rfl⟩ := h
 rw [repS_iff] at h1
 exact ⟨by rw [h1.1], h1.2⟩
theorem csByteK (H : PH) (b : UInt8) : CsR H b [.int .u8 (b.toNat : Int)] := ⟨_, _, rfl, ⟨rfl, by
 show (0 : Int) ≤ _ ∧ _ ≤ (255 : Int)
 have := b.toNat_lt
 omega⟩, rfl⟩
theorem txtCsK {H : PH} {l : List UInt8} (h : l.length ≤ maxLen) : CsR H l (txt l).cells.toList := ⟨_, _, rfl, ⟨rfl, h⟩, rfl⟩
def namesL : List (List UInt8) := [[], [], [], [], [], [118, 111, 105, 100], [101, 111, 102], [117, 110, 115, 101, 116]]
def TellE (r : Dat × Int × Bool) (e : Ending) (S : PH) : Prop := ∃ cs, e = .returned (.tuple #[.agg cs.toArray, .int .i64 r.2.1, .bool r.2.2]) ∧ r.1.Rep S cs
theorem tellE_leaf {k n : Int} {t : List UInt8} {seen seen' : Int} {ok : Bool} {S : PH} (hk : InI k) (hn : InI n) (ht : t.length ≤ maxLen) (hs : seen' = seen) : TellE (.mk k n t [], seen, ok) (.returned (.tuple #[.agg #[.int .i64 k, .int .i64 n, txt t, .slice none 0 0], .int .i64 seen', .bool ok])) S :=
 ⟨_, by rw [hs], leaf_rep hk hn ht⟩
theorem eight_of {α : Type} {l : List α} (h : l.length = 8) : ∃ a b c d e f g i, l = [a, b, c, d, e, f, g, i] := by
 match l, h with
 | [a, b, c, d, e, f, g, i], _ => exact ⟨a, b, c, d, e, f, g, i, rfl⟩
theorem tell8_tri (h : HX) (hr : Nat) (ok : HeapOk h) : ∀ (f : Nat) (v : VX) (deep seen : Int) (H : PH), HeapAt H hr h → VFit v → mayV h.length v = true → 0 ≤ seen → seen ≤ 200 → 200 - seen ≤ f → 0 ≤ deep → deep ≤ 33 →
  Tri Try.prog n_scrimshawref08_Heap__tell #[pAt hr, valV v, .int .i64 deep, .int .i64 seen] H fun e H' => PH.le H H' ∧ TellE (tellX h f v deep seen) e H' := by
 intro f
 induction f with
 | zero =>
  intro v deep seen H hh hv hm h0 h1 h2 h3 h4
  refine tri_scrimshawref08_Heap__tell ([pAt hr] ++ valVs v ++ [.int .i64 deep, .int .i64 seen]) (by kernel_rfl) (by kernel_rfl) ?_
  simp only [cns]
  refine ⟨fun g => ⟨PH.le_refl _, tellE_leaf (k := 0) (n := 0) (t := []) (by decide) (by decide) (by decide) rfl⟩, fun g => ?_⟩
  exfalso
  simp only [evs, evb] at g
  simp only [Bool.or_eq_false_iff, decide_eq_false_iff_not, ge_iff_le] at g
  omega
 | succ f ih =>
  intro v deep seen H hh hv hm h0 h1 h2 h3 h4
  have hfew := tellX_few ok f
  have hmx : maxLen = 9223372036854775807 := rfl
  show Tri _ _ _ _ fun e H' => PH.le H H' ∧ TellE (tellStep h (tellX h f) v deep seen) e H'
  refine tri_scrimshawref08_Heap__tell ([pAt hr] ++ valVs v ++ [.int .i64 deep, .int .i64 seen]) (by kernel_rfl) (by kernel_rfl) ?_
  simp only [cns]
  generalize hT : tellStep h (tellX h f) v deep seen = T
  unfold tellStep at hT
  refine ⟨fun g => ?_, fun g => ?_⟩
  ·simp only [evs, evb] at g
   simp only [Bool.or_eq_true, decide_eq_true_eq, ge_iff_le, gt_iff_lt] at g
   rw [if_pos g] at hT
   rw [← hT]
   exact ⟨PH.le_refl _, tellE_leaf (k := 0) (n := 0) (t := []) (by decide) (by decide) (by decide) rfl⟩
  simp only [evs, evb] at g
  simp only [Bool.or_eq_false_iff, decide_eq_false_iff_not, ge_iff_le, gt_iff_lt] at g
  rw [if_neg (by omega)] at hT
  have hw1 : IntKind.i64.wrap (seen + 1) = seen + 1 := w64 (by omega) (by omega)
  refine den_lit (l := namesL) (b := 16) (namesL.map txt) uTxtsK elemTxtK rfl (by decide) (by decide) (by kernel_rfl) ?_ pendNil fun nv H1 a1 l1 _ => ?_
  ·exact .cons (txtCsK (by decide)) (.cons (txtCsK (by decide)) (.cons (txtCsK (by decide)) (.cons (txtCsK (by decide)) (.cons (txtCsK (by decide)) (.cons (txtCsK (by decide)) (.cons (txtCsK (by decide)) (.cons (txtCsK (by decide)) .nil)))))))
  simp only [cns]
  refine ⟨fun g1 => ?_, fun g1 => ?_⟩
  ·have g1 : v.kind = 1 ∨ v.kind = 2 := by
    simp only [evs, evb] at g1
    by_cases e : v.kind = 1
    ·exact .inl e
    ·simp only [e, decide_false, Bool.false_eq_true, if_false, decide_eq_true_eq] at g1; exact .inr g1
   rw [if_pos g1] at hT
   rw [← hT]
   exact ⟨l1, tellE_leaf (t := []) hv.1 hv.2.1 (by decide) hw1⟩
  have g1 : ¬ (v.kind = 1 ∨ v.kind = 2) := by
   simp only [evs, evb] at g1
   by_cases e : v.kind = 1
   ·simp [e] at g1
   ·simpa [e] using g1
  rw [if_neg g1] at hT
  refine ⟨fun g2 => ?_, fun g2 => ?_⟩
  ·simp only [evs, evb, decide_eq_true_eq] at g2
   rw [if_pos g2] at hT
   rw [← hT]
   exact ⟨l1, tellE_leaf (k := 4) (n := 0) (by decide) (by decide) hv.2.2 hw1⟩
  simp only [evs, evb, decide_eq_false_iff_not] at g2
  rw [if_neg g2] at hT
  refine ⟨fun g3 => ?_, fun g3 => ?_⟩
  ·simp only [evs, evb, decide_eq_true_eq] at g3
   rw [if_pos g3] at hT
   rw [← hT]
   exact ⟨l1, tellE_leaf (k := 5) (n := 0) (t := []) (by decide) (by decide) (by decide) hw1⟩
  simp only [evs, evb, decide_eq_false_iff_not] at g3
  rw [if_neg g3] at hT
  refine ⟨fun vs K => vs = [.bool (decide (v.kind = 5 ∨ v.kind = 6 ∨ v.kind = 7))] ∧ H1 = K, ?_, fun g4 => ?_, fun g4 => ?_⟩
  rotate_left
  ·simp only [evs, evb, decide_eq_true_eq] at g4
   exact ⟨_, lookup_hit, by simp [evs, evb, g4], rfl⟩
  ·simp only [evs, evb, decide_eq_false_iff_not] at g4
   refine ⟨_, lookup_hit, ?_, rfl⟩
   by_cases e6 : v.kind = 6 <;> by_cases e7 : v.kind = 7 <;> simp [evs, evb, g4, e6, e7]
  rintro vs K _ ⟨rfl, rfl⟩
  simp only [cns]
  refine ⟨fun g4 => ?_, fun g4 => ?_⟩
  ·simp only [evs, evb, decide_eq_true_eq] at g4
   rw [if_pos g4] at hT
   rw [← hT]
   obtain ⟨k, hk, hn⟩ : ∃ k : Nat, v.kind = (k : Int) ∧ namesL[k]? = some (nameX v.kind) := by
    rcases g4 with e | e | e
    ·exact ⟨5, e, by rw [e]; rfl⟩
    ·exact ⟨6, e, by rw [e]; rfl⟩
    ·exact ⟨7, e, by rw [e]; rfl⟩
   have hsl := a1.slR
   obtain ⟨nb, nc, rfl⟩ := hsl.sl
   obtain ⟨x1, _, cs, x2, x3⟩ := hsl.get hn
   obtain ⟨rfl, x4⟩ := csTxtK x2
   refine ⟨fun _ => ?_, [txt (nameX v.kind)], rfl, ?_, ?_⟩
   ·simp only [Chk.holds, evs, evb]; exact ⟨x1, by omega, by show v.kind < 8; omega⟩
   ·rw [← hk] at x3; simp only [evs, evb]; exact x3
   exact ⟨l1, tellE_leaf (k := 4) (n := 0) (by decide) (by decide) x4 hw1⟩
  simp only [evs, evb, decide_eq_false_iff_not] at g4
  rw [if_neg g4] at hT
  refine ⟨fun g5 => ?_, fun g5 => ?_⟩
  ·simp only [evs, evb, decide_eq_true_eq] at g5
   rw [if_pos g5] at hT
   rw [← hT]
   exact ⟨l1, tellE_leaf (k := 0) (t := []) (by decide) hv.2.1 (by decide) hw1⟩
  simp only [evs, evb, decide_eq_false_iff_not] at g5
  rw [if_neg g5] at hT
  have h8 : v.kind = 8 := by
   have e1 : ¬ v.kind = 1 := fun e => g1 (.inl e)
   have e2 : ¬ v.kind = 2 := fun e => g1 (.inr e)
   have e5 : ¬ v.kind = 5 := by omega
   have e6 : ¬ v.kind = 6 := by omega
   have e7 : ¬ v.kind = 7 := by omega
   by_cases e : v.kind = 8
   ·exact e
   ·exfalso
    simp [mayV, g5, e1, e2, g2, g3, e5, e6, e7, e] at hm
  have hin := may_ref hm h8
  obtain ⟨thv, hr1, hs⟩ := hh.le l1
  obtain ⟨tb, tc, rfl⟩ := hs.sl
  obtain ⟨i, hi⟩ : ∃ i : Nat, v.int = (i : Int) := ⟨v.int.toNat, by omega⟩
  obtain ⟨t, ht⟩ : ∃ t, h[i]? = some t := ⟨_, List.getElem?_eq_getElem (by omega)⟩
  have hgd : h.getD v.int.toNat default = t := by rw [hi, Int.toNat_natCast, List.getD_eq_getElem?_getD, ht]; rfl
  have htm : t ∈ h := List.mem_of_getElem? ht
  rw [hgd] at hT
  obtain ⟨hsome, pv, q4, q5, q6⟩ := heap_get hs ht
  obtain ⟨pb, pc, rfl⟩ := q5.sl
  have hfewp := ok.few t htm
  refine ⟨fun _ => by simp [Chk.holds, evs, evb], [.slice tb h.length tc], rfl, by simp only [evs, evb]; exact hr1, fun _ => ?_, [.int .i64 t.kind, .slice pb t.parts.length pc], rfl, ?_, ?_⟩
  ·simp only [Chk.holds, evs, evb]; exact ⟨hsome, by omega, by omega⟩
  ·simp only [evs, evb, hi]; exact q6
  simp only [cns]
  refine ⟨fun g6 => ?_, fun g6 => ?_⟩
  ·simp only [evs, evb, decide_eq_true_eq] at g6
   rw [if_pos g6] at hT
   rw [← hT]
   exact ⟨l1, tellE_leaf (k := 4) (n := 0) (t := [98, 111, 120]) (by decide) (by decide) (by decide) hw1⟩
  simp only [evs, evb, decide_eq_false_iff_not] at g6
  rw [if_neg g6] at hT
  refine ⟨fun g7 => ?_, fun g7 => ?_⟩
  ·simp only [evs, evb, decide_eq_true_eq] at g7
   rw [if_pos g7] at hT
   rw [← hT]
   exact ⟨l1, tellE_leaf (k := 4) (n := 0) (t := [112, 114, 111, 99, 101, 100, 117, 114, 101]) (by decide) (by decide) (by decide) hw1⟩
  simp only [evs, evb, decide_eq_false_iff_not] at g7
  rw [if_neg g7] at hT
  have hK1 : Held H1 H1 [] := Held.nil (PH.le_refl _)
  refine ⟨fun g8 => ?_, fun g8 => ?_⟩
  ·simp only [evs, evb, decide_eq_true_eq] at g8
   rw [if_pos g8] at hT
   rw [← hT]
   refine den_hLit0 (α := UInt8) (b := 1) uBytes elemByteK hK1 pendNil fun v11 K2 k2 _ _ => ?_
   simp only [cns]
   refine ⟨fun n vs K => ∃ (k : Nat) (u : Value) (S1 : PH), k + n = t.parts.length ∧ vs = [u, nI k] ∧ PH.le H1 S1 ∧ Held S1 K [orow 5 ((t.parts.take k).map fun p => byteOf p.int) u], ⟨t.parts.length, 0, v11, H1, by omega, rfl, PH.le_refl _, k2⟩, ?_⟩
   rintro n vs K3 _ ⟨k, u, S1, hkn, rfl, ls, k3⟩
   simp only [cns]
   obtain ⟨ub, uc, hu⟩ := (k3.row (List.mem_cons_self ..)).sl
   refine ⟨fun g9 => ?_, fun g9 => ?_⟩
   ·simp only [evs, evb, decide_eq_true_eq] at g9
    obtain ⟨p, hp⟩ : ∃ p, t.parts[k]? = some p := ⟨_, List.getElem?_eq_getElem (by omega)⟩
    obtain ⟨y1, _, cs, y2, y3⟩ := q5.get hp
    obtain ⟨rfl, y4⟩ := val_cs y2
    refine ⟨fun _ => ?_, [.int .i64 p.int], rfl, ?_, ?_⟩
    ·simp only [Chk.holds, evs, evb]; exact ⟨y1, by omega, by omega⟩
    ·simp only [evs, evb]; exact rowAt_le (PH.le_trans ls k3.sh) (rowAt_sub y3 1 1)
    simp only [cns]
    refine den_hPush (b := 1) (more := [byteOf p.int]) [.int .u8 ((byteOf p.int).toNat : Int)] uBytes elemByteK rfl (by decide) (by decide) k3 ?_ (.cons (csByteK _ _) .nil) pendNil (fun w => by kernel_rfl) (fun w => by kernel_rfl)
     (by simp only [List.length_map, List.length_take, List.length_cons, List.length_nil]; omega) (by simp only [List.length_map, List.length_take, List.length_cons, List.length_nil]; omega) fun w v7 S7 K7 l7 h7 => ⟨pendNil, ?_⟩
    ·rw [← u8conv]; kernel_rfl
    refine ⟨_, lookup_hit, n - 1, by omega, k + 1, v7, S7, by omega, ?_, PH.le_trans ls l7, ?_⟩
    ·have hw : IntKind.i64.wrap ((k : Int) + 1) = ((k + 1 : Nat) : Int) := by rw [w64 (by omega) (by omega)]; rfl
     simp only [evs, evb, hw]
    ·rw [List.take_add_one, hp, List.map_append]; exact h7
   ·simp only [evs, evb, decide_eq_false_iff_not] at g9
    obtain ⟨S2, s2, l2, k4⟩ := k3.freeze
    rw [List.take_of_length_le (by omega)] at s2
    refine den_bytesText uBytes uString uByte (by kernel_rfl) (s2.le k4.sh) pendNil ?_
    exact ⟨PH.le_trans l1 (PH.le_trans ls k3.sh), tellE_leaf (k := 3) (n := 0) (by decide) (by decide) (by rw [List.length_map]; omega) hw1⟩
  simp only [evs, evb, decide_eq_false_iff_not] at g8
  rw [if_neg g8] at hT
  refine den_hLit0 (α := Dat) (b := 56) uDats elemDat hK1 pendNil fun v11 K2 k2 _ _ => ?_
  simp only [cns]
  refine ⟨fun n vs K => ∃ (k : Nat) (u : Value) (S1 : PH) (acc : List Dat) (seen' : Int) (xs : List Value), k + n = t.parts.length ∧ vs = [.int .i64 seen', .int .i64 0, .bool false, u, .bool true, nI k] ++ xs ∧ xs.length = 8 ∧ PH.le H1 S1 ∧ Held S1 K [orow 28 acc u] ∧ acc.length = k ∧ (Dats.cnt acc : Int) ≤ seen' - (seen + 1) ∧ seen + 1 ≤ seen' ∧ seen' ≤ 200 ∧
   tellsX (tellX h f) deep (decide (t.kind = 0)) t.parts 0 (seen + 1) [] = tellsX (tellX h f) deep (decide (t.kind = 0)) (t.parts.drop k) k seen' acc,
   ⟨t.parts.length, 0, v11, H1, [], seen + 1, _, by omega, by simp only [evs, evb, hw1]; rfl, rfl, PH.le_refl _, k2, rfl, by simp [Dats.cnt], by omega, by omega, rfl⟩, ?_⟩
  rintro n vs K3 _ ⟨k, u, S1, acc, seen', xs, hkn, rfl, hxs, ls, k3, hal, hcnt, hs1, hs2, htl⟩
  obtain ⟨x0, x1, x2, x3, x4, x5, x6, x7, rfl⟩ := eight_of hxs
  simp only [cns]
  have hlw : PH.le H1 K3 := PH.le_trans ls k3.sh
  refine ⟨fun g9 => ?_, fun g9 => ?_⟩
  ·simp only [evs, evb, decide_eq_true_eq] at g9
   obtain ⟨p, hp⟩ : ∃ p, t.parts[k]? = some p := ⟨_, List.getElem?_eq_getElem (by omega)⟩
   obtain ⟨y1, _, cs, y2, y3⟩ := q5.get hp
   obtain ⟨rfl, y4⟩ := val_cs y2
   have hdr : t.parts.drop k = p :: t.parts.drop (k + 1) := by
    rw [← List.getElem_cons_drop (by omega : k < t.parts.length)]
    rw [(List.getElem?_eq_some_iff.1 hp).2]
   rw [hdr] at htl
   simp only [tellsX] at htl
   generalize hdn : downX deep (decide (t.kind = 0)) k = dn at htl
   have hdb : 0 ≤ dn ∧ dn ≤ 33 := by
    rw [← hdn]; unfold downX
    split <;> omega
   refine ⟨fun _ => ?_, valVs p, rfl, ?_, ?_⟩
   ·simp only [Chk.holds, evs, evb]; exact ⟨y1, by omega, by omega⟩
   ·simp only [evs, evb]; exact rowAt_le hlw y3
   simp only [cns]
   have hw2 : IntKind.i64.wrap (deep + 1) = deep + 1 := w64 (by omega) (by omega)
   have hcall : ∀ dv, dv = Value.int .i64 dn → Tri Try.prog n_scrimshawref08_Heap__tell #[pAt hr, valV p, dv, .int .i64 seen'] K3 fun e H' => ∃ S', PH.le S1 S' ∧ Held S' H' [orow 28 acc u] ∧ TellE (tellX h f p dn seen') e S' := fun dv hdv => by
    rw [hdv]
    exact k3.pure (R := fun e S' => TellE (tellX h f p dn seen') e S') (ih p dn seen' S1 (HeapAt.le (PH.le_trans l1 ls) hh) y4 (ok.may t htm p (List.mem_of_getElem? hp)) (by omega) hs2 (by omega) hdb.1 hdb.2)
   refine den_call cb_scrimshawref08_Heap__tell (hcall _ ?_) ?_
   ·rw [← hdn]; unfold downX
    have hd1 : decide ((k : Int) = 1) = decide (k = 1) := by rw [decide_eq_decide]; omega
    simp only [evs, evb, hw2, hd1]
    cases (decide (t.kind = 0)) <;> cases (decide (k = 1)) <;> rfl
   rintro x K4 ⟨S2, l2, k4, cs, rfl, hd⟩
   have hfp := hfew p dn seen' (by omega) hs2
   generalize hR : tellX h f p dn seen' = R at htl hd hfp
   obtain ⟨d, sn, okk⟩ := R
   obtain ⟨sv, rfl, r1, r2, r3, r4⟩ := Dat.Rep_iff.1 hd
   obtain ⟨sb, sc, rfl⟩ := SlR.sl r4
   refine ⟨_, [.int .i64 d.kind, .int .i64 d.int, txt d.text, .slice sb d.list.length sc, .int .i64 sn, .bool okk], rfl, rfl, rfl, pendNil, ?_⟩
   simp only [cns]
   cases okk with
   | false =>
    refine ⟨fun _ => ?_, fun g10 => ?_⟩
    ·simp only [htl] at hT
     rw [← hT]
     exact ⟨PH.le_trans l1 (PH.le_trans ls (PH.le_trans l2 k4.sh)), tellE_leaf (k := 0) (n := 0) (t := []) (by decide) (by decide) (by decide) rfl⟩
    ·simp [evs, evb] at g10
   | true =>
    refine ⟨fun g10 => ?_, fun _ => ?_⟩
    ·simp [evs, evb] at g10
    obtain ⟨f1, f2, f3⟩ := hfp
    have f3 := f3 rfl
    simp only at f1 f2 f3
    simp only [if_true] at htl
    have hml := Dats.cnt_le acc
    refine den_hPush (b := 56) (more := [d]) [.agg #[.int .i64 d.kind, .int .i64 d.int, txt d.text, .slice sb d.list.length sc]] uDats elemDat rfl (by decide) (by decide) k4 (by kernel_rfl) (.cons hd .nil) pendNil (fun w => by kernel_rfl) (fun w => by kernel_rfl)
     (by simp only [List.length_cons, List.length_nil]; omega) (by simp only [List.length_cons, List.length_nil]; omega) fun w v7 S7 K7 l7 h7 => ⟨pendNil, ?_⟩
    have hcd : 1 ≤ d.cnt := by have := Dat.cnt_eq d; omega
    refine ⟨_, lookup_hit, n - 1, by omega, k + 1, v7, S7, acc ++ [d], sn, [.int .i64 d.kind, .int .i64 d.int, txt d.text, .slice sb d.list.length sc, x4, x5, x6, x7], by omega, ?_, rfl, PH.le_trans ls (PH.le_trans l2 l7), h7, by simp [hal], ?_, by omega, f2, htl⟩
    ·have hw : IntKind.i64.wrap ((k : Int) + 1) = ((k + 1 : Nat) : Int) := by rw [w64 (by omega) (by omega)]; rfl
     simp only [evs, evb, hw]
    ·rw [Dats.cnt_append]; simp only [Dats.cnt]; omega
  ·simp only [evs, evb, decide_eq_false_iff_not] at g9
   have hkl : k = t.parts.length := by omega
   subst hkl
   rw [List.drop_length] at htl
   simp only [tellsX] at htl
   simp only [htl, if_true] at hT
   obtain ⟨S2, s2, l2, k4⟩ := k3.freeze
   have hlen := s2.len
   obtain ⟨ub, uc, rfl⟩ := s2.sl
   have hle := PH.le_trans l1 (PH.le_trans ls (PH.le_trans l2 k4.sh))
   refine ⟨fun g10 => ?_, fun g10 => ?_⟩
   ·simp only [evs, evb, decide_eq_true_eq] at g10
    rw [if_pos g10] at hT
    have h2 : acc.length = 2 := by rw [hal]; exact ok.pair t htm g10
    obtain ⟨a, b, rfl⟩ := two_of h2
    simp only [Dats.cnt, List.take_succ_cons, List.take_zero, List.getD_cons_succ, List.getD_cons_zero] at hcnt hT
    have hcap : 2 ≤ uc := by
     rcases (SlR.mk_iff.1 s2).2 with ⟨_, h⟩ | ⟨_, c, h, h3, _⟩
     ·cases h
     ·cases h; exact h3
    obtain ⟨z1, _, cs, z2, z3⟩ := s2.get (i := 1) (a := b) rfl
    obtain ⟨sv, rfl, r1, r2, r3, r4⟩ := Dat.Rep_iff.1 z2
    obtain ⟨sb, sc, rfl⟩ := SlR.sl r4
    have hcut := s2.cut (a := 0) (b := 1) (by omega) (by simp)
    refine ⟨fun _ => ?_, fun _ => ?_, [.int .i64 b.kind, .int .i64 b.int, txt b.text, .slice sb b.list.length sc], rfl, ?_, ?_⟩
    ·simp only [Chk.holds, evs, evb, slCap]; omega
    ·simp only [Chk.holds, evs, evb]; exact ⟨z1, by omega, by simp⟩
    ·simp only [evs, evb]; exact rowAt_le k4.sh z3
    simp only [cns]
    refine den_call cb_scrimshawref02_Make (RMake_gives [a] b _ _ K3 (hcut.le k4.sh) (Dat.Rep.le k4.sh b z2) (by simp only [Dats.cnt]; omega) (by omega)) ?_
    rintro x K5 ⟨cs, rfl, l5, hd⟩
    obtain ⟨sv', rfl, r1', r2', r3', r4'⟩ := Dat.Rep_iff.1 hd
    obtain ⟨sb', sc', rfl⟩ := SlR.sl r4'
    refine ⟨_, _, rfl, rfl, rfl, pendNil, ?_⟩
    rw [← hT]
    exact ⟨PH.le_trans hle l5, _, rfl, hd⟩
   ·simp only [evs, evb, decide_eq_false_iff_not] at g10
    rw [if_neg g10] at hT
    rw [← hT]
    exact ⟨hle, _, rfl, Dat.Rep_iff.2 ⟨_, rfl, (by decide : InI 7), (by decide : InI 0), Nat.zero_le _, s2.le k4.sh⟩⟩
end Go.Proofs.Ytcfgpbmcgmkmhaa.Vc
/-
 CODE RUN: the machine in memory; what is found in it, what is copied.
-/
namespace Go.Proofs.Ytcfgpbmcgmkmhaa.Vc
open Go

theorem Tell8_tri (h : HX) (hr : Nat) (ok : HeapOk h) (v : VX) (hv : VFit v) (H : PH) (hh : HeapAt H hr h) :
  Tri Try.prog n_scrimshawref08_Heap__Tell #[pAt hr, valV v] H fun e H' => PH.le H H' ∧ ∃ cs, e = .returned (.tuple #[.agg cs.toArray, .bool (tellV h v).2]) ∧ (tellV h v).1.Rep H' cs := by
 refine tri_scrimshawref08_Heap__Tell ([pAt hr] ++ valVs v) (by kernel_rfl) (by kernel_rfl) ?_
 simp only [cns]
 have leaf0 : ∀ {S : PH}, Dat.Rep S dat0 [.int .i64 0, .int .i64 0, txt [], .slice none 0 0] := fun {S} => leaf_rep (k := 0) (n := 0) (t := []) (by decide) (by decide) (by decide)
 refine den_gives [.bool (mayV h.length v)] cb_scrimshawref08_Heap__May (May8_gives h hr v hv H hh) rfl pendNil fun H1 l1 => ⟨fun g => ?_, fun g => ?_⟩
 ·simp only [evs, evb, Bool.not_eq_true'] at g
  have : tellV h v = (dat0, false) := by unfold tellV; rw [g]; rfl
  rw [this]
  exact ⟨l1, _, rfl, leaf0⟩
 simp only [evs, evb, Bool.not_eq_false'] at g
 refine den_call cb_scrimshawref08_Heap__tell (tell8_tri h hr ok 200 v 0 0 H1 (hh.le l1) hv g (by omega) (by omega) (by omega) (by omega) (by omega)) ?_
 rintro x H2 ⟨l2, cs, rfl, hd⟩
 have ht : tellV h v = if (tellX h 200 v 0 0).2.2 then ((tellX h 200 v 0 0).1, true) else (dat0, false) := by unfold tellV; rw [g]; rfl
 rw [ht]
 generalize tellX h 200 v 0 0 = R at hd
 obtain ⟨d, sn, okk⟩ := R
 obtain ⟨sv, rfl, r1, r2, r3, r4⟩ := Dat.Rep_iff.1 hd
 obtain ⟨sb, sc, rfl⟩ := SlR.sl r4
 refine ⟨_, [.int .i64 d.kind, .int .i64 d.int, txt d.text, .slice sb d.list.length sc, .int .i64 sn, .bool okk], rfl, rfl, rfl, pendNil, ?_⟩
 simp only [cns]
 cases okk with
 | false => exact ⟨fun _ => ⟨PH.le_trans l1 l2, _, rfl, leaf0⟩, fun g3 => by simp [evs, evb] at g3⟩
 | true => exact ⟨fun g3 => by simp [evs, evb] at g3, fun _ => ⟨PH.le_trans l1 l2, _, rfl, hd⟩⟩
theorem Const8_tri (d : Dat) (cs : List Value) (H : PH) (hd : d.Rep H cs) : Tri Try.prog n_scrimshawref08_Const #[.agg cs.toArray] H fun e H' => PH.le H H' ∧ ∃ b, e = .returned (.tuple #[valV (constK d), .bool b]) := by
 have hc := RCheckF_gives d cs H hd
 obtain ⟨sv, rfl, hk, hn, ht, hs⟩ := Dat.Rep_iff.1 hd
 obtain ⟨b, c, rfl⟩ := hs.sl
 refine tri_scrimshawref08_Const [.int .i64 d.kind, .int .i64 d.int, txt d.text, .slice b d.list.length c] (by kernel_rfl) (by kernel_rfl) ?_
 refine den_gives [.int .i64 (d.chk 0 0).2] cb_scrimshawref02_Check hc rfl pendNil fun H1 l1 => ⟨fun g => ?_, fun g => ?_⟩
 ·simp only [evs, evb, decide_eq_true_eq] at g
  have : constK d = vNone := by unfold constK; rw [if_pos g]
  rw [this]
  exact ⟨l1, false, rfl⟩
 simp only [evs, evb, decide_eq_false_iff_not] at g
 have hK : constK d = if d.kind = 0 ∨ d.kind = 1 ∨ d.kind = 2 then ⟨d.kind, d.int, []⟩ else if d.kind = 4 then ⟨3, 0, d.text⟩ else if d.kind = 5 ∧ d.list.isEmpty = true then ⟨4, 0, []⟩ else vNone := by unfold constK; rw [if_neg g]
 simp only [cns]
 refine ⟨fun vs K => vs = [] ∧ H1 = K ∧ constK d = vNone, ?_, ?_⟩
 ·rintro vs K _ ⟨rfl, rfl, h3⟩
  rw [h3]
  exact ⟨l1, false, rfl⟩
 refine ⟨fun vs K => vs = [.bool (decide (d.kind = 0 ∨ d.kind = 1 ∨ d.kind = 2))] ∧ H1 = K, ?_, fun g2 => ?_, fun g2 => ?_⟩
 rotate_left
 ·simp only [evs, evb, decide_eq_true_eq] at g2
  exact ⟨_, lookup_hit, by simp [evs, evb, g2], rfl⟩
 ·simp only [evs, evb, decide_eq_false_iff_not] at g2
  refine ⟨_, lookup_hit, ?_, rfl⟩
  by_cases e6 : d.kind = 1 <;> by_cases e7 : d.kind = 2 <;> simp [evs, evb, g2, e6, e7]
 rintro vs K _ ⟨rfl, rfl⟩
 refine ⟨fun g2 => ?_, fun g2 => ?_⟩
 ·simp only [evs, evb, decide_eq_true_eq] at g2
  rw [hK, if_pos g2]
  exact ⟨l1, true, rfl⟩
 simp only [evs, evb, decide_eq_false_iff_not] at g2
 rw [if_neg g2] at hK
 refine ⟨fun g3 => ?_, fun g3 => ?_⟩
 ·simp only [evs, evb, decide_eq_true_eq] at g3
  rw [hK, if_pos g3]
  exact ⟨l1, true, rfl⟩
 simp only [evs, evb, decide_eq_false_iff_not] at g3
 rw [if_neg g3] at hK
 refine ⟨fun g4 => ⟨fun g5 => ?_, fun g5 => ?_⟩, fun g4 => ?_⟩
 ·simp only [evs, evb, decide_eq_true_eq] at g4 g5
  have : d.list.isEmpty = true := by rw [List.isEmpty_iff]; exact List.length_eq_zero_iff.1 (by omega)
  rw [hK, if_pos ⟨g4, this⟩]
  exact ⟨l1, true, rfl⟩
 ·simp only [evs, evb, decide_eq_true_eq, decide_eq_false_iff_not] at g4 g5
  refine ⟨_, lookup_hit, rfl, rfl, ?_⟩
  rw [hK, if_neg]
  rintro ⟨_, h6⟩
  rw [List.isEmpty_iff] at h6
  rw [h6] at g5; simp at g5
 ·simp only [evs, evb, decide_eq_false_iff_not] at g4
  refine ⟨_, lookup_hit, rfl, rfl, ?_⟩
  rw [hK, if_neg (fun h => g4 h.1)]

/-! ### the machine in memory -/
structure CloM where
 thing : Int
 proc : Int
 b : Option Addr
 n : Nat
 c : Nat
 kont : Bool
 acts : List ActX
structure ActM where
 proc : Int
 b : Option Addr
 n : Nat
 c : Nat
 clo : Int
 block : Int
 at_ : Int
 to : Int
def CloM.sl (x : CloM) : Value := .slice x.b x.n x.c
def ActM.sl (x : ActM) : Value := .slice x.b x.n x.c
instance encActX : Enc ActX := ⟨fun a => [.int .i64 a.proc, slp a.regs, .int .i64 a.clo, .int .i64 a.block, .int .i64 a.at_, .int .i64 a.to], 6, fun _ => rfl⟩
instance encActM : Enc ActM := ⟨fun a => [.int .i64 a.proc, .own a.b a.n a.c, .int .i64 a.clo, .int .i64 a.block, .int .i64 a.at_, .int .i64 a.to], 6, fun _ => rfl⟩
instance encCloM : Enc CloM := ⟨fun x => [.int .i64 x.thing, .int .i64 x.proc, .own x.b x.n x.c, .bool x.kont, slp x.acts], 5, fun _ => rfl⟩
theorem repB_iff' {H : PH} {b : Bool} {v : Value} : PV.Rep H (.bool b) v ↔ v = .bool b := by simp only [PV.Rep]
theorem actX_iff {H : PH} {a : ActX} {cs : List Value} : CsR H a cs ↔ ∃ v, cs = [.int .i64 a.proc, v, .int .i64 a.clo, .int .i64 a.block, .int .i64 a.at_, .int .i64 a.to] ∧ SlR H a.regs v ∧ InI a.proc ∧ InI a.clo ∧ InI a.block ∧ InI a.at_ ∧ InI a.to := by
 show PV.RepRow H [.int .i64 a.proc, slp a.regs, .int .i64 a.clo, .int .i64 a.block, .int .i64 a.at_, .int .i64 a.to] cs ↔ _
 simp only [PV.RepRow, repI_iff]
 constructor
 ·rintro ⟨_, _, rfl, ⟨rfl, h1⟩, v, _, rfl, h2, _, _, rfl, ⟨rfl, h3⟩, _, _, rfl, ⟨rfl, h4⟩, _, _, rfl, ⟨rfl, h5⟩, _, _, rfl, ⟨rfl, h6⟩, rfl⟩
  exact ⟨v, rfl, h2, h1, h3, h4, h5, h6⟩
 ·rintro ⟨v, rfl, h2, h1, h3, h4, h5, h6⟩
  exact ⟨_, _, rfl, ⟨rfl, h1⟩, v, _, rfl, h2, _, _, rfl, ⟨rfl, h3⟩, _, _, rfl, ⟨rfl, h4⟩, _, _, rfl, ⟨rfl, h5⟩, _, _, rfl, ⟨rfl, h6⟩, rfl⟩
theorem actM_iff {H : PH} {a : ActM} {cs : List Value} : CsR H a cs ↔ cs = [.int .i64 a.proc, a.sl, .int .i64 a.clo, .int .i64 a.block, .int .i64 a.at_, .int .i64 a.to] ∧ InI a.proc ∧ InI a.clo ∧ InI a.block ∧ InI a.at_ ∧ InI a.to := by
 show PV.RepRow H [.int .i64 a.proc, .own a.b a.n a.c, .int .i64 a.clo, .int .i64 a.block, .int .i64 a.at_, .int .i64 a.to] cs ↔ _
 simp only [PV.RepRow, repI_iff, PV.Rep]
 constructor
 ·rintro ⟨_, _, rfl, ⟨rfl, h1⟩, _, _, rfl, rfl, _, _, rfl, ⟨rfl, h3⟩, _, _, rfl, ⟨rfl, h4⟩, _, _, rfl, ⟨rfl, h5⟩, _, _, rfl, ⟨rfl, h6⟩, rfl⟩
  exact ⟨rfl, h1, h3, h4, h5, h6⟩
 ·rintro ⟨rfl, h1, h3, h4, h5, h6⟩
  exact ⟨_, _, rfl, ⟨rfl, h1⟩, _, _, rfl, rfl, _, _, rfl, ⟨rfl, h3⟩, _, _, rfl, ⟨rfl, h4⟩, _, _, rfl, ⟨rfl, h5⟩, _, _, rfl, ⟨rfl, h6⟩, rfl⟩
theorem cloM_iff {H : PH} {x : CloM} {cs : List Value} : CsR H x cs ↔ ∃ v, cs = [.int .i64 x.thing, .int .i64 x.proc, x.sl, .bool x.kont, v] ∧ SlR H x.acts v ∧ InI x.thing ∧ InI x.proc := by
 show PV.RepRow H [.int .i64 x.thing, .int .i64 x.proc, .own x.b x.n x.c, .bool x.kont, slp x.acts] cs ↔ _
 simp only [PV.RepRow, repI_iff, PV.Rep, repB_iff']
 constructor
 ·rintro ⟨_, _, rfl, ⟨rfl, h1⟩, _, _, rfl, ⟨rfl, h2⟩, _, _, rfl, rfl, _, _, rfl, rfl, v, _, rfl, h3, rfl⟩
  exact ⟨v, rfl, h3, h1, h2⟩
 ·rintro ⟨v, rfl, h3, h1, h2⟩
  exact ⟨_, _, rfl, ⟨rfl, h1⟩, _, _, rfl, ⟨rfl, h2⟩, _, _, rfl, rfl, _, _, rfl, rfl, v, _, rfl, h3, rfl⟩
abbrev cloX (x : CloM × List VX) : CloX := ⟨x.1.thing, x.1.proc, x.2, x.1.kont, x.1.acts⟩
abbrev actX' (x : ActM × List VX) : ActX := ⟨x.1.proc, x.2, x.1.clo, x.1.block, x.1.at_, x.1.to⟩
/-- the machine's things -/
structure MS where
 L : List (TR × List VX)
 thv : Value
 C : List (CloM × List VX)
 cv : Value
 A : List (ActM × List VX)
 av : Value
 input : List UInt8
 out : List UInt8
 ov : Value
 w : VX
 t : VX
 done : Bool
 e : Int
def MS.x (s : MS) : MX := ⟨hpX s.L, s.C.map cloX, s.A.map actX', s.input, s.out, s.w, s.t, s.done, s.e⟩
def MS.cells (pv : Value) (hr : Nat) (s : MS) : List Value := [pv, pAt hr, s.cv, s.av, txt s.input, s.ov, .int .i64 s.w.kind, .int .i64 s.w.int, txt s.w.text, .int .i64 s.t.kind, .int .i64 s.t.int, txt s.t.text, .bool s.done, .int .i64 s.e]
abbrev bxM (pv : Value) (mr hr : Nat) (s : MS) : Itm := bx mr 78 (s.cells pv hr)
abbrev nestC (s : MS) : List Itm := nest 83 73 CloM.sl s.C s.cv
abbrev nestA (s : MS) : List Itm := nest 86 73 ActM.sl s.A s.av
abbrev rowO (s : MS) : Itm := orow 5 s.out s.ov
def machI (pv : Value) (mr hr : Nat) (s : MS) : List Itm := bxM pv mr hr s :: (heapI hr s.L s.thv ++ (nestC s ++ (nestA s ++ [rowO s])))
section
variable {S H : PH} {pv : Value} {mr hr : Nat} {s : MS} {J : List Itm}
abbrev restH (pv : Value) (mr hr : Nat) (s : MS) (J : List Itm) : List Itm := bxM pv mr hr s :: (nestC s ++ (nestA s ++ (rowO s :: J)))
abbrev restC (pv : Value) (mr hr : Nat) (s : MS) (J : List Itm) : List Itm := bxM pv mr hr s :: (heapI hr s.L s.thv ++ (nestA s ++ (rowO s :: J)))
abbrev restA (pv : Value) (mr hr : Nat) (s : MS) (J : List Itm) : List Itm := bxM pv mr hr s :: (heapI hr s.L s.thv ++ (nestC s ++ (rowO s :: J)))
abbrev restO (pv : Value) (mr hr : Nat) (s : MS) (J : List Itm) : List Itm := bxM pv mr hr s :: (heapI hr s.L s.thv ++ (nestC s ++ (nestA s ++ J)))
theorem mach_flat : machI pv mr hr s ++ J = bxM pv mr hr s :: (heapI hr s.L s.thv ++ (nestC s ++ (nestA s ++ (rowO s :: J)))) := by
 simp only [machI, List.cons_append, List.append_assoc, List.nil_append]
theorem permH : (machI pv mr hr s ++ J).Perm (heapI hr s.L s.thv ++ restH pv mr hr s J) := by
 rw [mach_flat]; exact List.perm_middle.symm
theorem permC : (machI pv mr hr s ++ J).Perm (nestC s ++ restC pv mr hr s J) := by
 rw [mach_flat]
 refine (List.Perm.cons _ (List.perm_append_comm_assoc (heapI hr s.L s.thv) (nestC s) _)).trans ?_
 exact List.perm_middle.symm
theorem permA : (machI pv mr hr s ++ J).Perm (nestA s ++ restA pv mr hr s J) := by
 rw [mach_flat]
 refine (List.Perm.cons _ ((List.Perm.append_left _ (List.perm_append_comm_assoc (nestC s) (nestA s) _)).trans (List.perm_append_comm_assoc (heapI hr s.L s.thv) (nestA s) _))).trans ?_
 exact List.perm_middle.symm
theorem permO : (machI pv mr hr s ++ J).Perm (rowO s :: restO pv mr hr s J) := by
 rw [mach_flat]
 refine (List.Perm.cons _ ((List.Perm.append_left _ ((List.Perm.append_left _ List.perm_middle).trans List.perm_middle)).trans List.perm_middle)).trans ?_
 exact List.Perm.swap _ _ _
theorem mach_bx (h : Held S H (machI pv mr hr s ++ J)) {off : Nat} {vs : List Value} (hv : ((s.cells pv hr).drop off).take vs.length = vs) : rowAt H (some ⟨mr, off, none⟩) vs := by
 rw [← hv]; exact bx_row h (List.mem_append_left _ (List.mem_cons_self ..)) off vs.length
theorem mach_heap (h : Held S H (machI pv mr hr s ++ J)) : HeapAt H hr (hpX s.L) := heap_at (h.perm permH)
theorem mach_csl (h : Held S H (machI pv mr hr s ++ J)) : ∃ b c, s.cv = .slice b s.C.length c := nest_sl (h.perm permC)
theorem mach_asl (h : Held S H (machI pv mr hr s ++ J)) : ∃ b c, s.av = .slice b s.A.length c := nest_sl (h.perm permA)
theorem mach_osl (h : Held S H (machI pv mr hr s ++ J)) : ∃ b c, s.ov = .slice b s.out.length c := ((h.perm permO).row (List.mem_cons_self ..)).sl
/-- a closure -/
theorem mach_clo (h : Held S H (machI pv mr hr s ++ J)) {k : Nat} {x : CloM × List VX} (hk : s.C[k]? = some x) :
  (slBase s.cv).isSome = true ∧ (pOf (eltV s.cv (k : Int) 5)).isSome = true ∧ ∃ av, rowAt H (pOf (eltV s.cv (k : Int) 5)) [.int .i64 x.1.thing, .int .i64 x.1.proc, x.1.sl, .bool x.1.kont, av] ∧ SlR S x.1.acts av ∧ InI x.1.thing ∧ InI x.1.proc := by
 obtain ⟨h1, h2, cs, h3, h4⟩ := nest_get (h.perm permC) hk
 obtain ⟨av, rfl, h5, h6, h7⟩ := cloM_iff.1 h3
 exact ⟨h1, h2, av, h4, h5, h6, h7⟩
theorem mach_clo_row (h : Held S H (machI pv mr hr s ++ J)) {k : Nat} {x : CloM × List VX} (hk : s.C[k]? = some x) : SlR H x.2 x.1.sl := (nest_in_row (h.perm permC) hk).slR h.sh
/-- an act -/
theorem mach_act (h : Held S H (machI pv mr hr s ++ J)) {k : Nat} {x : ActM × List VX} (hk : s.A[k]? = some x) :
  (slBase s.av).isSome = true ∧ (pOf (eltV s.av (k : Int) 6)).isSome = true ∧ rowAt H (pOf (eltV s.av (k : Int) 6)) [.int .i64 x.1.proc, x.1.sl, .int .i64 x.1.clo, .int .i64 x.1.block, .int .i64 x.1.at_, .int .i64 x.1.to] ∧ InI x.1.proc ∧ InI x.1.clo ∧ InI x.1.block ∧ InI x.1.at_ ∧ InI x.1.to := by
 obtain ⟨h1, h2, cs, h3, h4⟩ := nest_get (h.perm permA) hk
 obtain ⟨rfl, h5⟩ := actM_iff.1 h3
 exact ⟨h1, h2, h4, h5⟩
theorem mach_act_row (h : Held S H (machI pv mr hr s ++ J)) {k : Nat} {x : ActM × List VX} (hk : s.A[k]? = some x) : SlR H x.2 x.1.sl := (nest_in_row (h.perm permA) hk).slR h.sh
theorem mach_held (h : Held S H (machI pv mr hr s ++ J)) : Held S H (bxM pv mr hr s :: (heapI hr s.L s.thv ++ (nestC s ++ (nestA s ++ (rowO s :: J))))) := by rw [← mach_flat]; exact h
end
end Go.Proofs.Ytcfgpbmcgmkmhaa.Vc
/-
 CODE RUN: found, made, copied, told: in memory.
-/
namespace Go.Proofs.Ytcfgpbmcgmkmhaa.Vc
open Go

theorem uClosK : Try.prog.underlying 74 = some (.slice 83) := by kernel_rfl
theorem elemCloK : ElemOk Try.prog 83 5 72 = true := by kernel_rfl
theorem uActsK : Try.prog.underlying 75 = some (.slice 86) := by kernel_rfl
theorem elemActK : ElemOk Try.prog 86 6 64 = true := by kernel_rfl
theorem up1 {k : Nat} (h : k < 4611686018427387904) : IntKind.i64.wrap ((k : Int) + 1) = ((k + 1 : Nat) : Int) := by rw [w64 (by omega) (by omega)]; rfl
theorem down1 {k : Nat} (h0 : 0 < k) (h : k < 4611686018427387904) : IntKind.i64.wrap ((k : Int) - 1) = ((k - 1 : Nat) : Int) := by rw [w64 (by omega) (by omega)]; omega
def findI (m : MX) (v : VX) : Int := match m.find v with
 | none => -1
 | some k => (k : Int)
section
variable {S K : PH} {pv : Value} {mr hr : Nat} {s : MS} {J : List Itm}
theorem find15_gives (h : Held S K (machI pv mr hr s ++ J)) (v : VX) (hn : s.C.length ≤ 16777216) : Gives Try.prog n_scrimshawref15_Machine__find [pAt mr, valV v] K (.int .i64 (findI s.x v)) := by
 obtain ⟨cb, cc, hcv⟩ := mach_csl h
 refine tri_scrimshawref15_Machine__find ([pAt mr] ++ valVs v) (by kernel_rfl) (by kernel_rfl) ?_
 simp only [cns]
 refine ⟨fun n vs K1 => ∃ k : Nat, k + n = s.C.length ∧ vs = [.int .i64 0, nI k] ∧ K1 = K ∧ ∀ (i : Nat) (x : CloM × List VX), i < k → s.C[i]? = some x → (decide (v.kind = 8) && decide (x.1.thing = v.int)) = false, ⟨s.C.length, 0, by omega, rfl, rfl, fun i x hi => absurd hi (by omega)⟩, ?_⟩
 rintro n vs K1 _ ⟨k, hkn, rfl, rfl, hno⟩
 simp only [cns]
 have hl2 : rowAt K1 (some ⟨mr, 2, none⟩) [.slice cb s.C.length cc] := by rw [← hcv]; exact mach_bx h rfl
 refine ⟨fun _ => by simp [Chk.holds, evs, evb], [.slice cb s.C.length cc], rfl, by simp only [evs, evb]; exact hl2, fun g => ?_, fun g => ?_⟩
 ·simp only [evs, evb, decide_eq_true_eq] at g
  obtain ⟨x, hx⟩ : ∃ x, s.C[k]? = some x := ⟨_, List.getElem?_eq_getElem (by omega)⟩
  obtain ⟨x1, x2, av, x3, x4, x5, x6⟩ := mach_clo h hx
  rw [hcv] at x1 x2 x3
  refine ⟨fun vs K2 => vs = [.bool (decide (v.kind = 8) && decide (x.1.thing = v.int))] ∧ K1 = K2, ?_, fun g2 => ?_, fun g2 => ?_⟩
  ·rintro vs K2 _ ⟨rfl, rfl⟩
   refine ⟨fun g2 => ?_, fun g2 => ?_⟩
   ·simp only [evs, evb] at g2
    refine ⟨?_, PH.le_refl _⟩
    have : s.x.find v = some k := by
     unfold MX.find
     rw [List.findIdx?_eq_some_iff_getElem]
     have hk : k < (s.C.map cloX).length := by simpa using (List.getElem?_eq_some_iff.1 hx).1
     refine ⟨hk, ?_, fun j hj => ?_⟩
     ·show (decide (v.kind = 8) && decide (((s.C.map cloX)[k]'hk).thing = v.int)) = true
      rw [List.getElem_map, (List.getElem?_eq_some_iff.1 hx).2]; exact g2
     ·have hjl : j < s.C.length := by omega
      have := hno j s.C[j] hj (List.getElem?_eq_getElem hjl)
      show ¬ (decide (v.kind = 8) && decide (((s.C.map cloX)[j]'(by simpa using hjl)).thing = v.int)) = true
      rw [List.getElem_map, this]; simp
    show Ending.returned _ = Ending.returned _
    unfold findI
    rw [this]; rfl
   ·simp only [evs, evb] at g2
    refine ⟨_, lookup_hit, n - 1, by omega, k + 1, by omega, ?_, rfl, fun i y hi hy => ?_⟩
    ·simp only [evs, evb, up1 (by omega : k < 4611686018427387904)]
    ·rcases Nat.lt_succ_iff_lt_or_eq.1 hi with hi | rfl
     ·exact hno i y hi hy
     ·rw [hx] at hy; cases hy; exact g2
  ·simp only [evs, evb, decide_eq_true_eq] at g2
   refine ⟨[.slice cb s.C.length cc], rfl, by simp only [evs, evb]; exact hl2, fun _ => ?_, [.int .i64 x.1.thing], rfl, ?_, _, lookup_hit, ?_, rfl⟩
   ·simp only [Chk.holds, evs, evb]; exact ⟨x1, by omega, by omega⟩
   ·simp only [evs, evb]; exact rowAt_sub x3 0 1
   ·simp [evs, evb, g2]
  ·simp only [evs, evb, decide_eq_false_iff_not] at g2
   exact ⟨_, lookup_hit, by simp [evs, evb, g2], rfl⟩
 ·simp only [evs, evb, decide_eq_false_iff_not] at g
  refine ⟨?_, PH.le_refl _⟩
  have : s.x.find v = none := by
   unfold MX.find
   rw [List.findIdx?_eq_none_iff]
   intro y hy
   obtain ⟨x, hx, rfl⟩ := List.mem_map.1 (show y ∈ s.C.map cloX from hy)
   obtain ⟨i, hi⟩ := List.getElem?_of_mem hx
   exact hno i x (by have := (List.getElem?_eq_some_iff.1 hi).1; omega) hi
  unfold findI
  rw [this]; rfl
/-- a new closure -/
theorem made15_tri {held : List VX} {hv : Value} {proc : Int} {kont : Bool} {acts : List ActX} {asv : Value} (h : Held S K (orow 73 held hv :: (machI pv mr hr s ++ J))) (ha : SlR S acts asv) (hp : InI proc) (hL : s.L.length ≤ 16777216) (hC : s.C.length ≤ 16777216) :
  Tri Try.prog n_scrimshawref15_Machine__made #[pAt mr, .agg #[.int .i64 0, .int .i64 proc, hv, .bool kont, asv]] K fun e K' => ∃ S' s', PH.le S S' ∧ Held S' K' (machI pv mr hr s' ++ J) ∧ e = .returned (valV (s.x.made ⟨0, proc, held, kont, acts⟩).2) ∧ s'.x = (s.x.made ⟨0, proc, held, kont, acts⟩).1 ∧ s'.A = s.A ∧ s'.av = s.av ∧ s'.w = s.w ∧ s'.t = s.t ∧ s'.C.length = s.C.length + 1 := by
 obtain ⟨hb, hc, rfl⟩ := (h.row (List.mem_cons_self ..)).sl
 obtain ⟨ab, ac, rfl⟩ := ha.sl
 refine tri_scrimshawref15_Machine__made [pAt mr, .int .i64 0, .int .i64 proc, .slice hb held.length hc, .bool kont, .slice ab acts.length ac] (by kernel_rfl) (by kernel_rfl) ?_
 refine ⟨fun _ => by simp [Chk.holds, evs, evb], [pAt hr], rfl, by simp only [evs, evb]; exact mach_bx h.tail rfl, ?_⟩
 have h1 : Held S K (machI pv mr hr s ++ (orow 73 held (.slice hb held.length hc) :: J)) := h.perm List.perm_middle.symm
 simp only [cns]
 refine den_call cb_scrimshawref08_Heap__Make (HpTo.beside (h1.perm permH) fun K hK => make4_tri hr s.L s.thv S K hK hL) ?_
 rintro x K1 ⟨rfl, S1, L1, thv1, l1, h2, hL1⟩
 refine ⟨_, valVs (addX (hpX s.L) 4 []).2 ++ [Value.int .i64 0], rfl, rfl, rfl, pendNil, ?_⟩
 simp only [cns]
 obtain ⟨s1, hs1⟩ : ∃ s1 : MS, s1 = { s with L := L1, thv := thv1 } := ⟨_, rfl⟩
 have h3 : Held S1 K1 (machI pv mr hr s1 ++ (orow 73 held (.slice hb held.length hc) :: J)) := by
  subst hs1; exact h2.perm (permH (pv := pv) (mr := mr) (hr := hr) (s := { s with L := L1, thv := thv1 }) (J := orow 73 held (.slice hb held.length hc) :: J)).symm
 obtain ⟨cb, cc, hcv⟩ := mach_csl h3
 have hl2 : ∀ {K' : PH} {I : List Itm}, Held S1 K' (machI pv mr hr s1 ++ I) → rowAt K' (some ⟨mr, 2, none⟩) [s1.cv] := fun h => mach_bx h rfl
 refine ⟨[.slice cb s1.C.length cc], rfl, by simp only [evs, evb]; rw [← hcv]; exact hl2 h3, ?_⟩
 simp only [cns]
 obtain ⟨new, hnew⟩ : ∃ new : CloM, new = ⟨(addX (hpX s.L) 4 []).2.int, proc, hb, held.length, hc, kont, acts⟩ := ⟨_, rfl⟩
 have h4 : Held S1 K1 (orow 83 (s1.C.map Prod.fst) (.slice cb s1.C.length cc) :: (orow 73 held (.slice hb held.length hc) :: (inner 73 CloM.sl s1.C ++ restC pv mr hr s1 J))) := by
  rw [← hcv]
  exact h3.perm (List.perm_middle.trans ((List.Perm.cons _ permC).trans (List.Perm.swap _ _ _)))
 have hCl : s1.C.length = s.C.length := by rw [hs1]
 have hthing : InI new.thing := by
  rw [hnew]
  show InI ((hpX s.L).length : Int)
  simp only [hpX, List.length_map]
  unfold InI; omega
 refine den_hPush (b := 72) (more := [new]) [.agg #[.int .i64 new.thing, .int .i64 proc, .slice hb held.length hc, .bool kont, .slice ab acts.length ac]] uClosK elemCloK rfl (by decide) (by decide) h4 (by rw [hnew]; kernel_rfl) (.cons (cloM_iff.2 ⟨_, by rw [hnew]; rfl, by rw [hnew]; exact ha.le l1, hthing, by rw [hnew]; exact hp⟩) .nil) (pendOne (by simp only [evs, evb]; rw [← hcv]; exact hl2 h3)) (fun u => by kernel_rfl) (fun u => by kernel_rfl)
  (by simp only [maxLen, List.length_map, List.length_cons, List.length_nil]; omega) (by simp only [List.length_map, List.length_cons, List.length_nil]; omega) fun u v5 S2 K2 l2 h5 => ⟨pendNil, ?_⟩
 have h6 := nest_into (sl := CloM.sl) (a := new) (l := held) (by
  have : new.sl = .slice hb held.length hc := by rw [hnew]; rfl
  rw [this]; exact h5)
 have h7 := h6.perm List.perm_middle
 simp only [cns]
 refine den_bxStore (off := 2) (vs := [v5]) ?_ h7 rfl (by
  intro v hv
  rw [List.mem_singleton.1 hv]
  obtain ⟨b, c, e⟩ := (h5.row (List.mem_cons_self ..)).sl
  rw [e]; rfl) (by simp [MS.cells]) fun K3 h8 => ?_
 ·simp only [evs, evb]; rfl
 obtain ⟨s2, hs2⟩ : ∃ s2 : MS, s2 = { s1 with C := s1.C ++ [(new, held)], cv := v5 } := ⟨_, rfl⟩
 have h9 : Held S2 K3 (machI pv mr hr s2 ++ J) := by
  subst hs2
  rw [mach_flat]
  exact h8.perm (List.Perm.cons _ (List.perm_append_comm_assoc _ _ _))
 have hx1 : s1.x = { s.x with h := (addX (hpX s.L) 4 []).1 } := by
  rw [hs1]; unfold MS.x; simp only; rw [hL1]
 refine ⟨S2, s2, PH.le_trans l1 l2, h9, rfl, ?_, by rw [hs2, hs1], by rw [hs2, hs1], by rw [hs2, hs1], by rw [hs2, hs1], by rw [hs2]; simp [hCl]⟩
 have : s2.x = { s1.x with clos := s1.x.clos ++ [⟨(addX (hpX s.L) 4 []).2.int, proc, held, kont, acts⟩] } := by
  rw [hs2]; unfold MS.x; simp only [List.map_append, List.map_cons, List.map_nil, cloX]; rw [hnew]
 rw [this, hx1]
 rfl
end
/-! ### acts copied -/
theorem copied15_tri (acts : List ActX) (v : Value) (K : PH) (hv : SlR K acts v) (hn : acts.length ≤ 16777216) (hr : ∀ a ∈ acts, a.regs.length ≤ 16777216) :
  Tri Try.prog n_scrimshawref15_copied #[v] K fun e K' => ∃ S' LA v', e = .returned v' ∧ PH.le K S' ∧ Held S' K' (nest 86 73 ActM.sl LA v' ++ []) ∧ LA.map actX' = acts := by
 obtain ⟨b, c, rfl⟩ := hv.sl
 refine tri_scrimshawref15_copied [.slice b acts.length c] (by kernel_rfl) (by kernel_rfl) ?_
 have h0 : Held K K [] := Held.nil (PH.le_refl _)
 refine den_hLit0 (α := ActM) (b := 64) uActsK elemActK h0 pendNil fun v1 K1 h1 _ _ => ?_
 simp only [cns]
 refine ⟨fun n vs K2 => ∃ (k : Nat) (u : Value) (S2 : PH) (LA : List (ActM × List VX)), k + n = acts.length ∧ vs = [u, nI k] ∧ PH.le K S2 ∧ Held S2 K2 (nest 86 73 ActM.sl LA u ++ []) ∧ LA.map actX' = acts.take k, ⟨acts.length, 0, v1, K, [], by omega, rfl, PH.le_refl _, h1, rfl⟩, ?_⟩
 rintro n vs K2 _ ⟨k, u, S2, LA, hkn, rfl, l2, h2, hLA⟩
 simp only [cns]
 refine ⟨fun g => ?_, fun g => ?_⟩
 ·simp only [evs, evb, decide_eq_true_eq] at g
  obtain ⟨a, ha⟩ : ∃ a, acts[k]? = some a := ⟨_, List.getElem?_eq_getElem (by omega)⟩
  have har := hr a (List.mem_of_getElem? ha)
  have hLl : LA.length = k := by
   have := congrArg List.length hLA
   simp only [List.length_map, List.length_take] at this
   omega
  obtain ⟨x1, _, cs, x2, x3⟩ := hv.get ha
  obtain ⟨rv, rfl, y1, y2, y3, y4, y5, y6⟩ := actX_iff.1 x2
  obtain ⟨rb, rc, rfl⟩ := y1.sl
  refine ⟨fun _ => ?_, [.int .i64 a.proc, .slice rb a.regs.length rc, .int .i64 a.clo, .int .i64 a.block, .int .i64 a.at_, .int .i64 a.to], rfl, ?_, ?_⟩
  ·simp only [Chk.holds, evs, evb]; exact ⟨x1, by omega, by omega⟩
  ·simp only [evs, evb]; exact rowAt_le (PH.le_trans l2 h2.sh) x3
  simp only [cns]
  refine den_hLit0 (α := VX) (b := 32) uValsK elemValK h2 pendNil fun v3 K3 h3 _ _ => ?_
  simp only [cns]
  refine den_hApp (b := 32) (more := a.regs) uValsK elemValK (by kernel_rfl) (by kernel_rfl) h3 ((y1.le l2).srcS h3.sh) (by simp only [maxLen, List.length_nil]; omega) (by simp only [List.length_nil]; omega) fun v4 K4 h4 _ => ⟨pendNil, ?_⟩
  rw [List.nil_append] at h4
  obtain ⟨b4, c4, rfl⟩ := (h4.row (List.mem_cons_self ..)).sl
  simp only [cns]
  obtain ⟨new, hnew⟩ : ∃ new : ActM, new = ⟨a.proc, b4, a.regs.length, c4, a.clo, a.block, a.at_, a.to⟩ := ⟨_, rfl⟩
  have h5 : Held S2 K4 (orow 86 (LA.map Prod.fst) u :: orow 73 a.regs (.slice b4 a.regs.length c4) :: (inner 73 ActM.sl LA ++ [])) := h4.perm (List.Perm.swap _ _ _)
  refine den_hPush (b := 64) (more := [new]) [.agg #[.int .i64 a.proc, .slice b4 a.regs.length c4, .int .i64 a.clo, .int .i64 a.block, .int .i64 a.at_, .int .i64 a.to]] uActsK elemActK rfl (by decide) (by decide) h5 (by kernel_rfl) (.cons (actM_iff.2 ⟨by rw [hnew]; rfl, by rw [hnew]; exact ⟨y2, y3, y4, y5, y6⟩⟩) .nil) pendNil (fun w => by kernel_rfl) (fun w => by kernel_rfl)
   (by simp only [maxLen, List.length_map, List.length_cons, List.length_nil]; omega) (by simp only [List.length_map, List.length_cons, List.length_nil]; omega) fun w v6 S6 K6 l6 h6 => ⟨pendNil, ?_⟩
  have h7 := nest_into (sl := ActM.sl) (a := new) (l := a.regs) (by
   have : new.sl = .slice b4 a.regs.length c4 := by rw [hnew]; rfl
   rw [this]; exact h6)
  refine ⟨_, lookup_hit, n - 1, by omega, k + 1, v6, S6, LA ++ [(new, a.regs)], by omega, ?_, PH.le_trans l2 l6, h7, ?_⟩
  ·simp only [evs, evb, up1 (by omega : k < 4611686018427387904)]
  ·rw [List.take_add_one, ha, List.map_append, hLA, hnew]; rfl
 ·simp only [evs, evb, decide_eq_false_iff_not] at g
  refine ⟨S2, LA, u, rfl, l2, h2, ?_⟩
  rw [hLA, List.take_of_length_le (by omega)]
/-! ### what is new stands beside what is held -/
def flatP : PV → Bool
 | .sl _ => false
 | _ => true
theorem rep_flat {p : PV} (hp : flatP p = true) {H H' : PH} {v : Value} (h : p.Rep H v) : p.Rep H' v := by
 cases p with
 | sl l => cases hp
 | _ => simpa only [PV.Rep] using h
theorem row_flat : ∀ {l : List PV} (_ : ∀ p ∈ l, flatP p = true) {H H' : PH} {cs : List Value}, PV.RepRow H l cs → PV.RepRow H' l cs
 | [], _, _, _, _, h => h
 | p :: l, hp, H, H', cs, h => by
  obtain ⟨v, rest, rfl, h1, h2⟩ := h
  exact ⟨v, rest, rfl, rep_flat (hp p (List.mem_cons_self ..)) h1, row_flat (fun q hq => hp q (List.mem_cons_of_mem _ hq)) h2⟩
def Itm.flat : Itm → Prop
 | .row _ _ rows _ => ∀ r ∈ rows, ∀ p ∈ r, flatP p = true
 | _ => True
theorem Itm.flat_at {i : Itm} (hi : i.flat) {S S' K : PH} (h : i.At S K) : i.At S' K := by
 cases i with
 | row e z rows v =>
  obtain ⟨xs, h1, h2⟩ := h
  exact ⟨xs, h1, row_flat (fun p hp => by
   obtain ⟨r, hr, hp⟩ := List.mem_flatten.1 hp
   exact hi r hr p hp) h2⟩
 | raw e z xs n v => exact h
 | blk r o => exact h
theorem Held.join {S S' K K' : PH} {I J : List Itm} (h : Held S K I) (hl : PH.le K S') (hJ : Held S' K' J) (hf : ∀ j ∈ J, j.flat) : Held S K' (J ++ I) := by
 have hS : PH.le S S' := PH.le_trans h.sh hl
 have hJS : Held S K' J := ⟨PH.le_trans hS hJ.sh, fun j hj => Itm.flat_at (hf j hj) (hJ.at_ j hj), fun j hj g hg => PH.none_of_le hS (hJ.off j hj g hg), hJ.nd⟩
 exact Held.step (J := []) (J' := J) h (PH.le_refl _) (fun k o hk _ => hJ.sh k o (hl k o hk)) (fun k h1 h2 => absurd h1 h2) hJS fun j hj g hg => .inl (PH.none_of_le hl (hJ.off j hj g hg))
theorem val_flat (v : VX) : ∀ p ∈ pv v, flatP p = true := by
 intro p hp
 simp only [pv, Enc.pv, VX.pv, List.mem_cons, List.not_mem_nil, or_false] at hp
 rcases hp with rfl | rfl | rfl <;> rfl
theorem actM_flat (a : ActM) : ∀ p ∈ pv a, flatP p = true := by
 intro p hp
 simp only [pv, Enc.pv, List.mem_cons, List.not_mem_nil, or_false] at hp
 rcases hp with rfl | rfl | rfl | rfl | rfl | rfl <;> rfl
theorem nestA_flat (LA : List (ActM × List VX)) (v : Value) : ∀ j ∈ nest 86 73 ActM.sl LA v ++ [], j.flat := by
 intro j hj
 rw [List.append_nil, nest_eq] at hj
 rcases List.mem_cons.1 hj with rfl | hj
 ·intro r hr p hp
  obtain ⟨a, _, rfl⟩ := List.mem_map.1 hr
  exact actM_flat a p hp
 ·obtain ⟨x, _, rfl⟩ := List.mem_map.1 hj
  intro r hr p hp
  obtain ⟨a, _, rfl⟩ := List.mem_map.1 hr
  exact val_flat a p hp
end Go.Proofs.Ytcfgpbmcgmkmhaa.Vc
/-
 CODE RUN: a value told; a value called: in memory.
-/
namespace Go.Proofs.Ytcfgpbmcgmkmhaa.Vc
open Go

/-- what the machine's own values fit in -/
def MFit (s : MS) : Prop := VFit s.w ∧ VFit s.t
/-- what comes of a step: the machine stands in memory -/
def MTo (pv : Value) (mr hr : Nat) (J : List Itm) (S : PH) (m : MX) (r : Value) (e : Ending) (K' : PH) : Prop := ∃ S' s', PH.le S S' ∧ Held S' K' (machI pv mr hr s' ++ J) ∧ MFit s' ∧ s'.x = m ∧ e = .returned r
abbrev vNil : Value := .tuple #[]
theorem permBx {s s' : MS} {pv : Value} {mr hr : Nat} {J : List Itm} (h1 : s'.L = s.L) (h2 : s'.thv = s.thv) (h3 : s'.C = s.C) (h4 : s'.cv = s.cv) (h5 : s'.A = s.A) (h6 : s'.av = s.av) (h7 : s'.out = s.out) (h8 : s'.ov = s.ov) : bxM pv mr hr s' :: (heapI hr s.L s.thv ++ (nestC s ++ (nestA s ++ (rowO s :: J)))) = machI pv mr hr s' ++ J := by
 rw [mach_flat, h1, h2, nestC, nestA, rowO, nestC, nestA, rowO, h3, h4, h5, h6, h7, h8]
section
variable {S K : PH} {pv : Value} {mr hr : Nat} {s : MS} {J : List Itm}
theorem last_act {l : List (ActM × List VX)} {ws : List ActX} {a : ActX} (h : l.map actX' = ws ++ [a]) : ∃ l' x, l = l' ++ [x] ∧ l'.map actX' = ws ∧ actX' x = a ∧ l[ws.length]? = some x ∧ l.length = ws.length + 1 := by
 have hl : l ≠ [] := fun e => by rw [e] at h; simp at h
 obtain ⟨l', x, rfl⟩ := snoc_of hl
 rw [List.map_append] at h
 have hlen : l'.length = ws.length := by
  have := congrArg List.length h
  simp at this; omega
 obtain ⟨e1, e2⟩ := List.append_inj h (by simpa using hlen)
 refine ⟨l', x, rfl, e1, by simpa using e2, ?_, by simp [hlen]⟩
 rw [← hlen]; simp
theorem tell15_tri (h : Held S K (machI pv mr hr s ++ J)) (hf : MFit s) {v : VX} (hv : VFit v) (hA : s.A.length ≤ 16777216) (hw : ∀ ws a, s.x.acts = ws ++ [a] → WaitOk a) :
  Tri Try.prog n_scrimshawref15_Machine__tell #[pAt mr, valV v] K fun e K' => ∃ s', Held S K' (machI pv mr hr s' ++ J) ∧ MFit s' ∧ s'.x = s.x.tell v ∧ e = .returned vNil := by
 obtain ⟨ab, ac, hav⟩ := mach_asl h
 refine tri_scrimshawref15_Machine__tell ([pAt mr] ++ valVs v) (by kernel_rfl) (by kernel_rfl) ?_
 simp only [cns]
 have hl3 : rowAt K (some ⟨mr, 3, none⟩) [.slice ab s.A.length ac] := by rw [← hav]; exact mach_bx h rfl
 refine ⟨fun _ => by simp [Chk.holds, evs, evb], [.slice ab s.A.length ac], rfl, by simp only [evs, evb]; exact hl3, fun g => ?_, fun g => ?_⟩
 ·simp only [evs, evb, decide_eq_true_eq] at g
  have hA0 : s.A = [] := List.length_eq_zero_iff.1 (by omega)
  refine den_bxStore (off := 9) (vs := [.int .i64 v.kind, .int .i64 v.int, txt v.text]) (by simp only [evs, evb]; rfl) (mach_held h) rfl (by
   intro u hu
   simp only [List.mem_cons, List.not_mem_nil, or_false] at hu
   rcases hu with rfl | rfl | rfl <;> rfl) (by simp [MS.cells]) fun K1 h1 => ?_
  refine den_bxStore (off := 12) (vs := [.bool true]) (by simp only [evs, evb]; rfl) h1 rfl (by
   intro u hu
   rw [List.mem_singleton.1 hu]; rfl) (by simp [MS.cells]) fun K2 h2 => ?_
  refine ⟨{ s with t := v, done := true }, ?_, ⟨hf.1, hv⟩, ?_, rfl⟩
  ·exact Eq.mp (congrArg (Held S K2) (permBx (s := s) (s' := { s with t := v, done := true }) rfl rfl rfl rfl rfl rfl rfl rfl)) h2
  ·unfold MS.x MX.tell
   simp only [hA0, List.map_nil, List.getLast?_nil]
 ·simp only [evs, evb, decide_eq_false_iff_not] at g
  have hne : s.x.acts ≠ [] := by
   intro e
   have : s.A = [] := List.map_eq_nil_iff.1 (show s.A.map actX' = [] from e)
   rw [this] at g; simp at g
  obtain ⟨ws, a, hs⟩ := snoc_of hne
  obtain ⟨l', x, hl', hws, hxa, hget, hlen⟩ := last_act (show s.A.map actX' = ws ++ [a] from hs)
  obtain ⟨x1, x2, x3, x4, x5, x6, x7, x8⟩ := mach_act h hget
  have hrow := mach_act_row h hget
  obtain ⟨rb, rc, hrs⟩ := hrow.sl
  rw [hav] at x1 x2 x3
  have hwa := hw ws a hs
  have hto : 0 ≤ x.1.to ∧ x.1.to < x.2.length := by rw [← hxa] at hwa; exact hwa
  have hd1 : IntKind.i64.wrap ((s.A.length : Int) - 1) = (ws.length : Int) := by rw [w64 (by omega) (by omega)]; omega
  obtain ⟨j, hj⟩ : ∃ j : Nat, x.1.to = (j : Int) := ⟨x.1.to.toNat, by omega⟩
  obtain ⟨y, hy⟩ : ∃ y, x.2[j]? = some y := ⟨_, List.getElem?_eq_getElem (by omega)⟩
  obtain ⟨r1, _⟩ := hrow.get hy
  refine ⟨[.slice ab s.A.length ac], rfl, by simp only [evs, evb]; exact hl3, fun _ => ?_, [.slice rb x.2.length rc], rfl, ?_, [.slice ab s.A.length ac], rfl, by simp only [evs, evb]; exact hl3, fun _ => ?_, [.int .i64 x.1.to], rfl, ?_, fun _ => ?_, ?_⟩
  ·simp only [Chk.holds, evs, evb, hd1]; exact ⟨x1, by omega, by omega⟩
  ·simp only [evs, evb, hd1]; rw [← hrs]; exact rowAt_sub x3 1 1
  ·simp only [Chk.holds, evs, evb, hd1]; exact ⟨x1, by omega, by omega⟩
  ·simp only [evs, evb, hd1]; exact rowAt_sub x3 5 1
  ·simp only [Chk.holds, evs, evb]; rw [hrs] at r1; exact ⟨r1, by omega, by omega⟩
  have hp := nest_pick hget (h.perm permA)
  refine den_hPutZ (i := j) (a := y) (a' := v) (us := valVs v) ?_ hp hy rfl (by kernel_rfl) (by simp [oneC]) (val_mk hv) fun K1 h1 => ?_
  ·simp only [evs, evb, hj]; rw [hrs]; rfl
  have h2 := nest_unpick hget h1
  refine ⟨{ s with A := s.A.set ws.length (x.1, x.2.set j v) }, ?_, hf, ?_, rfl⟩
  ·exact h2.perm (permA (s := { s with A := s.A.set ws.length (x.1, x.2.set j v) }) (J := J)).symm
  ·have hm : s.x.tell v = { s.x with acts := ws ++ [{ a with regs := a.regs.set a.to.toNat v }] } := by
    unfold MX.tell; rw [hs]; simp
   rw [hm]
   have : (s.A.set ws.length (x.1, x.2.set j v)).map actX' = ws ++ [{ a with regs := a.regs.set a.to.toNat v }] := by
    have hll : l'.length = ws.length := by rw [← hws]; simp
    rw [hl', ← hll, List.set_append_right _ _ (Nat.le_refl _), Nat.sub_self, List.set_cons_zero, List.map_append, hws, ← hxa]
    simp [hj]
   unfold MS.x
   simp only [this]
end
end Go.Proofs.Ytcfgpbmcgmkmhaa.Vc
/-
 CODE RUN: a value called: in memory.
-/
namespace Go.Proofs.Ytcfgpbmcgmkmhaa.Vc
open Go

section
variable {S K : PH} {pv : Value} {mr hr : Nat} {s : MS} {J : List Itm} {c : CodeX} {n : Nat}
/-- only the error is written -/
theorem mach_err {X : List PanicEntry → PH → Prop} {E : List Value} {L : LK} {p : SV} {w : SV} {e : Int} (h : Held S K (machI pv mr hr s ++ J)) (hf : MFit s) (hp : pOf (ev0 E p) = some ⟨mr, 13, none⟩) (hw : ev0 E w = .int .i64 e) {β : Type} {k : Fm β} {Q : β → List Value → PH → LK → Prop}
  (hk : ∀ K', Held S K' (machI pv mr hr { s with e := e } ++ J) → MFit { s with e := e } → den Try.prog X k E K' L Q) : den Try.prog X (.store p [w] k) E K L Q := by
 refine den_bxStore (off := 13) (vs := [.int .i64 e]) hp (mach_held h) (by simp only [List.map_cons, List.map_nil, hw]) (by
  intro u hu
  rw [List.mem_singleton.1 hu]; rfl) (by simp [MS.cells]) fun K1 h1 => hk K1 ?_ hf
 exact Eq.mp (congrArg (Held S K1) (permBx (s := s) (s' := { s with e := e }) rfl rfl rfl rfl rfl rfl rfl rfl)) h1
theorem find_clo {v : VX} {k : Nat} (h : s.x.find v = some k) : ∃ x, s.C[k]? = some x ∧ s.x.clos.getD k default = cloX x := by
 obtain ⟨y, hy⟩ := find_some h
 have hy' : (s.C.map cloX)[k]? = some y := hy
 rw [List.getElem?_map] at hy'
 cases hx : s.C[k]? with
 | none => rw [hx] at hy'; cases hy'
 | some x =>
  rw [hx] at hy'
  refine ⟨x, rfl, ?_⟩
  show (s.C.map cloX).getD k default = _
  rw [List.getD_eq_getElem?_getD, List.getElem?_map, hx]; rfl
theorem call_some {v : VX} {k : Nat} {x : CloM × List VX} (hfd : s.x.find v = some k) (hxc : s.x.clos.getD k default = cloX x) (args : List VX) (behind : Bool) : s.x.call c v args behind = if x.1.kont then (match args with
    | [y] => ({ s.x with acts := x.1.acts } : MX).tell y
    | _ => { s.x with e := 91 }) else if (args.length : Int) ≠ (prcAt c x.1.proc).params then { s.x with e := 91 } else { s.x with acts := (if behind then s.x.acts else s.x.acts.dropLast) ++ [newAct (prcAt c x.1.proc) x.1.proc k args] } := by
 unfold MX.call; rw [hfd]; simp only [hxc]; rfl
theorem call15_tri (h : Held S K (machI pv mr hr s ++ J)) (hf : MFit s) (hc : SlR S c pv) (g : GoodC c) (hco : CoreOk c n s.x) (hao : ActsOk c n s.x) (hn : n ≤ 16777215) {v : VX} (hv : VFit v) {args : List VX} {argv : Value} (hargs : SlR S args argv) (behind : Bool) (hne : behind = false → s.x.acts ≠ []) :
  Tri Try.prog n_scrimshawref15_Machine__call #[pAt mr, valV v, argv, .bool behind] K (MTo pv mr hr J S (s.x.call c v args behind) vNil) := by
 obtain ⟨ab, ac, rfl⟩ := hargs.sl
 have hmx : maxLen = 9223372036854775807 := rfl
 have hCl : s.C.length ≤ n := by have := hco.cn; simpa [MS.x] using this
 have hAl : s.A.length ≤ n := by have := hao.an; simpa [MS.x] using this
 refine tri_scrimshawref15_Machine__call ([pAt mr] ++ valVs v ++ [.slice ab args.length ac, .bool behind]) (by kernel_rfl) (by kernel_rfl) ?_
 simp only [cns]
 refine den_gives [.int .i64 (findI s.x v)] cb_scrimshawref15_Machine__find (find15_gives h v (by omega)) rfl pendNil fun K1 l1 => ?_
 have h := h.le l1
 simp only [cns]
 cases hfd : s.x.find v with
 | none =>
  have hfi : findI s.x v = -1 := by unfold findI; rw [hfd]
  refine ⟨fun _ => ⟨fun _ => by simp [Chk.holds, evs, evb], ?_⟩, fun g2 => ?_⟩
  ·refine mach_err (e := 90) h hf (by simp only [evs, evb]; rfl) (by simp only [evs, evb]) fun K2 h2 f2 => ⟨S, _, PH.le_refl _, h2, f2, ?_, rfl⟩
   unfold MX.call; rw [hfd]; rfl
  ·simp [evs, evb, hfi] at g2
 | some k =>
  have hfi : findI s.x v = (k : Int) := by unfold findI; rw [hfd]
  obtain ⟨x, hx, hxc⟩ := find_clo hfd
  have hcall := call_some (c := c) hfd hxc args behind
  have hkC := (List.getElem?_eq_some_iff.1 hx).1
  obtain ⟨cb, cc, hcv⟩ := mach_csl h
  obtain ⟨x1, x2, av, x3, x4, x5, x6⟩ := mach_clo h hx
  have hcl := hco.clos (cloX x) (List.mem_map.2 ⟨x, List.mem_of_getElem? hx, rfl⟩)
  have hrw := mach_clo_row h hx
  obtain ⟨hb, hcc, hxs⟩ := hrw.sl
  obtain ⟨avb, avc, rfl⟩ := x4.sl
  rw [hcv] at x1 x3
  refine ⟨fun g2 => ?_, fun _ => ⟨fun _ => by simp [Chk.holds, evs, evb], [.slice cb s.C.length cc], rfl, by simp only [evs, evb]; rw [← hcv]; exact mach_bx h rfl, fun _ => ?_, [.int .i64 x.1.thing, .int .i64 x.1.proc, .slice hb x.2.length hcc, .bool x.1.kont, .slice avb x.1.acts.length avc], rfl, by simp only [evs, evb, hfi]; rw [← hxs]; exact x3, ?_⟩⟩
  ·simp [evs, evb, hfi] at g2; omega
  ·simp only [Chk.holds, evs, evb, hfi]; exact ⟨x1, by omega, by omega⟩
  simp only [cns]
  cases hk : x.1.kont with
  | true =>
   rw [hk] at hcall
   simp only [if_true] at hcall
   refine ⟨fun _ => ⟨fun g3 => ?_, fun g3 => ?_⟩, fun g3 => by simp [evs, evb] at g3⟩
   ·simp only [evs, evb, ne_eq, decide_not, Bool.not_eq_true', decide_eq_false_iff_not] at g3
    refine mach_err (e := 91) h hf (by simp only [evs, evb]; rfl) (by simp only [evs, evb]) fun K2 h2 f2 => ⟨S, _, PH.le_refl _, h2, f2, ?_, rfl⟩
    rw [hcall]
    split
    ·simp at g3
    ·rfl
   ·have hl1 : args.length = 1 := by
     simp only [evs, evb, ne_eq, decide_not, Bool.not_eq_false', decide_eq_true_eq] at g3
     omega
    obtain ⟨y, rfl⟩ : ∃ y, args = [y] := by
     match args, hl1 with
     | [y], _ => exact ⟨y, rfl⟩
    simp only at hcall
    have hka := hcl.kont hk
    refine den_call cb_scrimshawref15_copied (copied15_tri x.1.acts _ K1 (x4.le h.sh) (by have := hcl.few; show x.1.acts.length ≤ _; have h0 : (cloX x).acts.length ≤ n := hcl.few; simp only [cloX] at h0; omega) (fun a ha => by
     obtain ⟨ha1, _⟩ := hka a ha
     have := ha1.regs
     have hp := (g.prc (prcAt_mem ha1.proc.1 ha1.proc.2).1).regs
     omega)) ?_
    rintro e K2 ⟨S2, LA, v2, rfl, l2, h2, hLA⟩
    obtain ⟨b2, c2, hv2⟩ := nest_sl h2
    refine ⟨_, [v2], rfl, by rw [hv2]; rfl, rfl, pendNil, ?_⟩
    simp only [cns]
    have h3 := h.join l2 h2 (nestA_flat LA v2)
    rw [List.append_nil, mach_flat] at h3
    have h4 := h3.perm List.perm_middle
    refine den_bxStore (off := 3) (vs := [v2]) (by simp only [evs, evb]; rfl) h4 rfl (by
     intro u hu
     rw [List.mem_singleton.1 hu, hv2]; rfl) (by simp [MS.cells]) fun K3 h5 => ?_
    obtain ⟨s3, hs3⟩ : ∃ s3 : MS, s3 = { s with A := LA, av := v2 } := ⟨_, rfl⟩
    have h6 : Held S K3 (machI pv mr hr s3 ++ J) := by
     subst hs3
     rw [mach_flat]
     refine (h5.perm (List.Perm.cons _ ((List.perm_append_comm_assoc _ _ _).trans (List.Perm.append_left _ (List.perm_append_comm_assoc _ _ _))))).sub ?_
     refine List.Sublist.cons_cons _ (List.Sublist.append (List.Sublist.refl _) (List.Sublist.append (List.Sublist.refl _) (List.Sublist.append (List.Sublist.refl _) ?_)))
     exact List.sublist_append_right _ _
    have hx3 : s3.x = { s.x with acts := x.1.acts } := by rw [hs3]; unfold MS.x; simp only [hLA]
    obtain ⟨y1, _, ycs, y2, y3⟩ := hargs.get (i := 0) (a := y) rfl
    obtain ⟨rfl, yf⟩ := val_cs y2
    refine ⟨fun _ => ?_, valVs y, rfl, by simp only [evs, evb]; exact rowAt_le h6.sh y3, ?_⟩
    ·simp only [Chk.holds, evs, evb]; exact ⟨y1, by omega, by simp⟩
    simp only [cns]
    have hlen3 : s3.A.length ≤ 16777216 := by
     have e1 : LA.length = x.1.acts.length := by rw [← hLA]; simp
     have h0 : (cloX x).acts.length ≤ n := hcl.few
     simp only [cloX] at h0
     rw [hs3]; show LA.length ≤ _; omega
    refine den_call cb_scrimshawref15_Machine__tell (tell15_tri h6 (by rw [hs3]; exact hf) yf hlen3 (fun ws a hwa => (hka a (by
     rw [hx3] at hwa
     have hwa : x.1.acts = ws ++ [a] := hwa
     show a ∈ x.1.acts
     rw [hwa]; simp)).2)) ?_
    rintro e K4 ⟨s4, h7, f4, hx4, rfl⟩
    refine ⟨_, [], rfl, rfl, rfl, pendNil, S, s4, PH.le_refl _, h7, f4, ?_, rfl⟩
    rw [hx4, hcall, hx3]
  | false =>
   rw [hk] at hcall
   simp only [Bool.false_eq_true, if_false] at hcall
   obtain ⟨hpr, _⟩ := hcl.fn hk
   obtain ⟨pm1, pm2⟩ := prcAt_mem hpr.1 hpr.2
   have gp := g.prc pm1
   obtain ⟨pb, pc, rfl⟩ := hc.sl
   obtain ⟨p1, _, pcs, p2, p3⟩ := hc.get pm2
   obtain ⟨bv, rfl, q1, q2, q3, q4⟩ := prc_iff.1 p2
   obtain ⟨bb, bc, rfl⟩ := q4.sl
   obtain ⟨i0, hi0⟩ : ∃ i : Nat, x.1.proc = (i : Int) := ⟨x.1.proc.toNat, by have : 0 ≤ x.1.proc := hpr.1; omega⟩
   have hi0c : (i0 : Int) < c.length := by have := hpr.2; simp only [cloX] at this; omega
   simp only [cloX] at p3 pm2
   generalize hP : prcAt c x.1.proc = P at *
   rw [hi0, Int.toNat_natCast] at p3
   refine ⟨fun g3 => by simp [evs, evb] at g3, fun _ => ⟨[.slice pb c.length pc], rfl, by simp only [evs, evb]; exact mach_bx h rfl, fun _ => ?_, [.int .i64 P.params, .int .i64 P.holds, .int .i64 P.regs, .slice bb P.blocks.length bc], rfl, ?_, ?_⟩⟩
   ·simp only [Chk.holds, evs, evb, hi0]; exact ⟨p1, by omega, by omega⟩
   ·simp only [evs, evb, hi0]; exact rowAt_le h.sh p3
   simp only [cns]
   refine ⟨fun g3 => ?_, fun g3 => ?_⟩
   ·simp only [evs, evb, ne_eq, decide_not, Bool.not_eq_true', decide_eq_false_iff_not] at g3
    refine mach_err (e := 91) h hf (by simp only [evs, evb]; rfl) (by simp only [evs, evb]) fun K2 h2 f2 => ⟨S, _, PH.le_refl _, h2, f2, ?_, rfl⟩
    rw [hcall, if_pos g3]; rfl
   simp only [evs, evb, ne_eq, decide_not, Bool.not_eq_false', decide_eq_true_eq] at g3
   rw [if_neg (fun hh => hh g3)] at hcall
   obtain ⟨R, hR⟩ : ∃ R : Nat, P.regs = (R : Int) := ⟨P.regs.toNat, by have := gp.params; have := gp.regs; omega⟩
   have hR2 : R ≤ 2000 := by have := gp.regs; omega
   refine ⟨fun m vs K2 => ∃ (i : Nat) (u : Value) (S1 : PH), i + m = R ∧ vs = [nI i, .int .i64 x.1.proc, u, nI k, .int .i64 0, .int .i64 0, .int .i64 0] ∧ PH.le S S1 ∧ Held S1 K2 (orow 73 ((List.range i).map fun j => args.getD j ⟨7, 0, []⟩) u :: (machI (.slice pb c.length pc) mr hr s ++ J)),
    ⟨R, 0, .slice none 0 0, S, by omega, by simp only [evs, evb, hfi]; rfl, PH.le_refl _, h.empty _⟩, ?_⟩
   rintro m vs K2 _ ⟨i, u, S1, him, rfl, ls, h2⟩
   simp only [cns]
   refine ⟨fun g4 => ?_, fun g4 => ?_⟩
   ·simp only [evs, evb, decide_eq_true_eq] at g4
    refine ⟨fun vs K3 => vs = valVs (args.getD i ⟨7, 0, []⟩) ∧ K2 = K3, ?_, fun g5 => ?_, fun g5 => ?_⟩
    ·rintro vs K3 _ ⟨rfl, rfl⟩
     simp only [cns]
     have hfi7 : VFit (args.getD i ⟨7, 0, []⟩) := by
      rw [List.getD_eq_getElem?_getD]
      cases hi : args[i]? with
      | none => show VFit ⟨7, 0, []⟩; unfold VFit InI maxLen; simp
      | some y => exact val_fit hargs (List.mem_of_getElem? hi)
     refine den_hPush (b := 32) (more := [args.getD i ⟨7, 0, []⟩]) [valV (args.getD i ⟨7, 0, []⟩)] uValsK elemValK rfl (by decide) (by decide) h2 (by kernel_rfl) (.cons (val_mk hfi7) .nil) pendNil (fun w => by kernel_rfl) (fun w => by kernel_rfl)
      (by simp only [maxLen, List.length_map, List.length_range, List.length_cons, List.length_nil]; omega) (by simp only [List.length_map, List.length_range, List.length_cons, List.length_nil]; omega) fun w v7 S7 K7 l7 h7 => ⟨pendNil, ?_⟩
     refine ⟨_, lookup_hit, m - 1, by omega, i + 1, v7, S7, by omega, ?_, PH.le_trans ls l7, ?_⟩
     ·simp only [evs, evb, up1 (by omega : i < 4611686018427387904)]
     ·rw [List.range_succ, List.map_append]; exact h7
    ·simp only [evs, evb, decide_eq_true_eq] at g5
     obtain ⟨y, hy⟩ : ∃ y, args[i]? = some y := ⟨_, List.getElem?_eq_getElem (by omega)⟩
     obtain ⟨y1, _, ycs, y2, y3⟩ := hargs.get hy
     obtain ⟨rfl, yf⟩ := val_cs y2
     refine ⟨fun _ => ?_, valVs y, rfl, by simp only [evs, evb]; exact rowAt_le (PH.le_trans ls h2.sh) y3, _, lookup_hit, ?_, rfl⟩
     ·simp only [Chk.holds, evs, evb]; exact ⟨y1, by omega, by omega⟩
     ·rw [List.getD_eq_getElem?_getD, hy]; rfl
    ·simp only [evs, evb, decide_eq_false_iff_not] at g5
     refine ⟨_, lookup_hit, ?_, rfl⟩
     rw [List.getD_eq_getElem?_getD, List.getElem?_eq_none (by omega)]; rfl
   simp only [evs, evb, decide_eq_false_iff_not] at g4
   have hiR : i = R := by omega
   subst hiR
   obtain ⟨ub, uc, rfl⟩ : ∃ b c', u = .slice b i c' := by simpa using (h2.row (List.mem_cons_self ..)).sl
   have ht := h2.tail
   obtain ⟨ab', ac', hav⟩ := mach_asl ht
   refine ⟨fun vs K3 => vs = [] ∧ ∃ s1 : MS, Held S1 K3 (orow 73 ((List.range i).map fun j => args.getD j ⟨7, 0, []⟩) (.slice ub i uc) :: (machI (.slice pb c.length pc) mr hr s1 ++ J)) ∧ s1.x = { s.x with acts := if behind then s.x.acts else s.x.acts.dropLast } ∧ MFit s1 ∧ s1.A.length ≤ n, ?_, fun g5 => ?_, fun g5 => ?_⟩
   rotate_left
   ·simp only [evs, evb, Bool.not_eq_true'] at g5
    subst g5
    have hne := hne rfl
    have hA0 : 0 < s.A.length := by
     rcases Nat.eq_zero_or_pos s.A.length with e | e
     ·exact absurd (show s.A.map actX' = [] by rw [List.length_eq_zero_iff.1 e]; rfl) hne
     ·exact e
    have hd1 : IntKind.i64.wrap ((s.A.length : Int) - 1) = ((s.A.length - 1 : Nat) : Int) := down1 hA0 (by omega)
    have hcap : s.A.length ≤ ac' := by
     have := (nest_row (h2.tail.perm permA)).slR ht.sh
     rw [hav] at this
     rcases (SlR.mk_iff.1 this).2 with ⟨h', _⟩ | ⟨_, c', h', h3, _⟩
     ·obtain ⟨_, e1, e2⟩ := Value.slice.inj h'; omega
     ·obtain ⟨_, e1, e2⟩ := Value.slice.inj h'; simp only [List.length_map] at h3; omega
    refine ⟨[.slice ab' s.A.length ac'], rfl, by simp only [evs, evb]; rw [← hav]; exact mach_bx ht rfl, [.slice ab' s.A.length ac'], rfl, by simp only [evs, evb]; rw [← hav]; exact mach_bx ht rfl, fun _ => ?_, ?_⟩
    ·simp only [Chk.holds, evs, evb, slCap, hd1]; omega
    have h3 : Held S1 K2 (nestA s ++ (restA (.slice pb c.length pc) mr hr s (orow 73 ((List.range i).map fun j => args.getD j ⟨7, 0, []⟩) (.slice ub i uc) :: J))) := (h2.perm List.perm_middle.symm).perm permA
    have h4 := nest_cut h3 (Nat.sub_le s.A.length 1) hA0
    have h5 := h4.perm List.perm_middle
    refine den_bxStore (off := 3) (vs := [slsV s.av 0 ((s.A.length - 1 : Nat) : Int) (sz ActM)]) (by simp only [evs, evb]; rfl) h5 ?_ (by
     intro w hw
     rw [List.mem_singleton.1 hw, hav]; rfl) (by simp [MS.cells]) fun K3 h6 => ?_
    ·rw [hav]; simp only [List.map_cons, List.map_nil, evs, evb, hd1]; rfl
    obtain ⟨s3, hs3⟩ : ∃ s3 : MS, s3 = { s with A := s.A.take (s.A.length - 1), av := slsV s.av 0 ((s.A.length - 1 : Nat) : Int) (sz ActM) } := ⟨_, rfl⟩
    refine ⟨_, lookup_hit, rfl, s3, ?_, ?_, by rw [hs3]; exact hf, by rw [hs3]; simp; omega⟩
    ·subst hs3
     have h7 := h6.perm List.perm_middle.symm
     refine Held.perm (J := orow 73 ((List.range i).map fun j => args.getD j ⟨7, 0, []⟩) (.slice ub i uc) :: (machI (.slice pb c.length pc) mr hr { s with A := s.A.take (s.A.length - 1), av := slsV s.av 0 ((s.A.length - 1 : Nat) : Int) (sz ActM) } ++ J)) h7 ?_
     exact ((permA (s := { s with A := s.A.take (s.A.length - 1), av := slsV s.av 0 ((s.A.length - 1 : Nat) : Int) (sz ActM) }) (pv := .slice pb c.length pc) (mr := mr) (hr := hr) (J := orow 73 ((List.range i).map fun j => args.getD j ⟨7, 0, []⟩) (.slice ub i uc) :: J)).symm).trans List.perm_middle
    ·rw [hs3]; unfold MS.x
     simp only [Bool.false_eq_true, if_false, List.dropLast_eq_take, List.length_map, List.map_take]
   ·simp only [evs, evb, Bool.not_eq_false'] at g5
    subst g5
    exact ⟨_, lookup_hit, rfl, s, h2, by simp, hf, hAl⟩
   rintro vs K3 _ ⟨rfl, s1, h3, hx1, f1, hA1⟩
   simp only [List.append_nil]
   obtain ⟨ab1, ac1, hav1⟩ := mach_asl h3.tail
   have hl3 : rowAt K3 (some ⟨mr, 3, none⟩) [.slice ab1 s1.A.length ac1] := by rw [← hav1]; exact mach_bx h3.tail rfl
   refine ⟨[.slice ab1 s1.A.length ac1], rfl, by simp only [evs, evb]; exact hl3, ?_⟩
   simp only [cns]
   obtain ⟨new, hnew⟩ : ∃ new : ActM, new = ⟨x.1.proc, ub, i, uc, (k : Int), 0, 0, 0⟩ := ⟨_, rfl⟩
   have h4 : Held S1 K3 (orow 86 (s1.A.map Prod.fst) (.slice ab1 s1.A.length ac1) :: (orow 73 ((List.range i).map fun j => args.getD j ⟨7, 0, []⟩) (.slice ub i uc) :: (inner 73 ActM.sl s1.A ++ restA (.slice pb c.length pc) mr hr s1 J))) := by
    rw [← hav1]
    exact h3.perm ((List.Perm.cons _ permA).trans (List.Perm.swap _ _ _))
   refine den_hPush (b := 64) (more := [new]) [.agg #[.int .i64 x.1.proc, .slice ub i uc, nI k, .int .i64 0, .int .i64 0, .int .i64 0]] uActsK elemActK rfl (by decide) (by decide) h4 (by kernel_rfl) (.cons (actM_iff.2 ⟨by rw [hnew]; rfl, by rw [hnew]; exact ⟨x6, by show InI (k : Int); unfold InI; omega, (by decide : InI 0), (by decide : InI 0), (by decide : InI 0)⟩⟩) .nil) (pendOne (by simp only [evs, evb]; exact hl3)) (fun w => by kernel_rfl) (fun w => by kernel_rfl)
    (by simp only [maxLen, List.length_map, List.length_cons, List.length_nil]; omega) (by simp only [List.length_map, List.length_cons, List.length_nil]; omega) fun w v5 S2 K4 l5 h5 => ⟨pendNil, ?_⟩
   have h6 := nest_into (sl := ActM.sl) (a := new) (l := (List.range i).map fun j => args.getD j ⟨7, 0, []⟩) (by
    have : new.sl = .slice ub i uc := by rw [hnew]; rfl
    rw [this]; exact h5)
   have h7 := h6.perm List.perm_middle
   simp only [cns]
   refine den_bxStore (off := 3) (vs := [v5]) (by simp only [evs, evb]; rfl) h7 rfl (by
    intro v hv
    rw [List.mem_singleton.1 hv]
    obtain ⟨b, c, e⟩ := (h5.row (List.mem_cons_self ..)).sl
    rw [e]; rfl) (by simp [MS.cells]) fun K5 h8 => ?_
   obtain ⟨s2, hs2⟩ : ∃ s2 : MS, s2 = { s1 with A := s1.A ++ [(new, (List.range i).map fun j => args.getD j ⟨7, 0, []⟩)], av := v5 } := ⟨_, rfl⟩
   have h9 : Held S2 K5 (machI (.slice pb c.length pc) mr hr s2 ++ J) := by
    subst hs2
    refine Held.perm (h8.perm List.perm_middle.symm) ?_
    exact (permA (s := { s1 with A := s1.A ++ [(new, (List.range i).map fun j => args.getD j ⟨7, 0, []⟩)], av := v5 }) (pv := .slice pb c.length pc) (mr := mr) (hr := hr) (J := J)).symm
   refine ⟨S2, s2, PH.le_trans ls l5, h9, by rw [hs2]; exact f1, ?_, rfl⟩
   rw [hcall]
   have : s2.x = { s1.x with acts := s1.x.acts ++ [newAct P x.1.proc k args] } := by
    rw [hs2]; unfold MS.x newAct
    simp only [List.map_append, List.map_cons, List.map_nil, actX', hR, Int.toNat_natCast]
    rw [hnew]
   rw [this, hx1]
end
end Go.Proofs.Ytcfgpbmcgmkmhaa.Vc
/-
 CODE RUN: a primitive of the machine: in memory.
-/
namespace Go.Proofs.Ytcfgpbmcgmkmhaa.Vc
open Go

theorem may_fit {n : Nat} (hn : n ≤ 4611686018427387904) {v : VX} (h : mayV n v = true) : VFit v := by
 have hx : maxLen = 9223372036854775807 := rfl
 unfold mayV at h
 unfold VFit InI
 split at h
 ·cases h
 rename_i h0
 have ht : v.kind ≠ 3 → v.text.length ≤ maxLen := fun hk => by
  have : v.text = [] := by
   rcases Classical.em (v.text = []) with e | e
   ·exact e
   ·exact absurd ⟨hk, e⟩ h0
  rw [this]; simp
 split at h
 ·rename_i hk; have := ht (by omega); simp only [decide_eq_true_eq] at h; omega
 split at h
 ·rename_i hk; have := ht (by omega); have := isNum_iff.1 h; omega
 split at h
 ·rename_i hk; have := ht (by omega); simp only [decide_eq_true_eq] at h; omega
 split at h
 ·rename_i hk
  simp only [Bool.and_eq_true, decide_eq_true_eq] at h
  have := h.2
  unfold nameOk at this
  simp only [Bool.and_eq_true, decide_eq_true_eq] at this
  omega
 split at h
 ·rename_i hk; have := ht (by omega); simp only [decide_eq_true_eq] at h; omega
 split at h
 ·rename_i hk; have := ht (by omega); simp only [decide_eq_true_eq] at h; omega
 ·cases h
section
variable {S K : PH} {pv : Value} {mr hr : Nat} {s : MS} {J : List Itm} {c : CodeX} {n : Nat}
def PTo (pv : Value) (mr hr : Nat) (J : List Itm) (S : PH) (s : MS) (m : MX) (v : VX) (e : Ending) (K' : PH) : Prop := ∃ S' s', PH.le S S' ∧ Held S' K' (machI pv mr hr s' ++ J) ∧ MFit s' ∧ s'.x = m ∧ e = .returned (valV v) ∧ VFit v ∧ s'.A = s.A ∧ s'.av = s.av
theorem fit_void : VFit vVoid := by unfold VFit vVoid InI maxLen; simp
theorem prim15_tri (h : Held S K (machI pv mr hr s ++ J)) (hf : MFit s) (hco : CoreOk c n s.x) (hn : n ≤ 16777215) (p : List UInt8) {args : List VX} {argv : Value} (hargs : SlR S args argv) (har : arityI p = args.length) :
  Tri Try.prog n_scrimshawref15_Machine__prim #[pAt mr, txt p, argv] K (PTo pv mr hr J S s (s.x.prim p args).1 (s.x.prim p args).2) := by
 obtain ⟨ab, ac, rfl⟩ := hargs.sl
 have hmx : maxLen = 9223372036854775807 := rfl
 have hOl : s.out.length ≤ n := hco.on
 have hLl : s.L.length ≤ n := by have := hco.hn; simpa [MS.x, hpX] using this
 refine tri_scrimshawref15_Machine__prim [pAt mr, txt p, .slice ab args.length ac] (by kernel_rfl) (by kernel_rfl) ?_
 have one : ∀ {k : Int} {q : List UInt8}, arityI q = k → p = q → (args.length : Int) = k := fun h1 h2 => by rw [← har, h2, h1]
 refine ⟨fun g => ?_, fun g => ?_⟩
 ·simp only [evs, evb, txt_eql, decide_eq_true_eq] at g
  subst g
  refine ⟨fun _ => by simp [Chk.holds, evs, evb], [txt s.input], rfl, by simp only [evs, evb]; exact mach_bx h rfl, fun g2 => ?_, fun g2 => ?_⟩
  ·simp only [evs, evb, txt_eql, decide_eq_true_eq] at g2
   refine ⟨S, s, PH.le_refl _, h, hf, ?_, ?_, ?_, rfl, rfl⟩
   ·unfold MX.prim; simp only [if_true]
    rw [show s.x.input = [] from g2]
   ·unfold MX.prim; simp only [if_true]
    rw [show s.x.input = [] from g2]; rfl
   ·unfold MX.prim; simp only [if_true]
    rw [show s.x.input = [] from g2]; unfold VFit InI maxLen; simp
  ·simp only [evs, evb, txt_eql, decide_eq_false_iff_not] at g2
   obtain ⟨b, l, hbl⟩ : ∃ b l, s.input = b :: l := by
    cases hi : s.input with
    | nil => exact absurd hi g2
    | cons b l => exact ⟨b, l, rfl⟩
   have hl4 : rowAt K (some ⟨mr, 4, none⟩) [txt (b :: l)] := by rw [← hbl]; exact mach_bx h rfl
   refine ⟨[txt (b :: l)], rfl, by simp only [evs, evb]; exact hl4, fun _ => ?_, [txt (b :: l)], rfl, by simp only [evs, evb]; exact hl4, fun _ => ?_, ?_⟩
   ·simp only [Chk.holds, evs, evb, txt_size, List.length_cons]; omega
   ·simp only [Chk.holds, evs, evb, txt_size, List.length_cons]; omega
   simp only [cns]
   refine den_bxStore (off := 4) (vs := [txt l]) (by simp only [evs, evb]; rfl) (mach_held h) ?_ (by
    intro u hu
    rw [List.mem_singleton.1 hu]; rfl) (by simp [MS.cells]) fun K1 h1 => ?_
   ·simp only [List.map_cons, List.map_nil, evs, evb, txt_size]
    rw [show ((1 : Int)).toNat = 1 from rfl, Int.toNat_natCast, extract_txt]
    simp
   have hm : s.x.prim [114, 101, 97, 100, 45, 117, 56] args = ({ s.x with input := l }, ⟨1, b.toNat, []⟩) := by
    unfold MX.prim; simp only [if_true]
    rw [show s.x.input = b :: l from hbl]
   rw [hm]
   have hb := b.toNat_lt
   have hw : IntKind.i64.wrap (b.toNat : Int) = (b.toNat : Int) := w64 (by omega) (by omega)
   refine ⟨S, { s with input := l }, PH.le_refl _, ?_, hf, rfl, ?_, ⟨(by decide : InI 1), by unfold InI; simp only; omega, (by decide : ([] : List UInt8).length ≤ maxLen)⟩, rfl, rfl⟩
   ·exact Eq.mp (congrArg (Held S K1) (permBx (s := s) (s' := { s with input := l }) rfl rfl rfl rfl rfl rfl rfl rfl)) h1
   ·have hb0 : (((⟨(b :: l).toArray⟩ : ByteArray)[0]?).getD 0) = b := rfl
    simp [evs, evb]
    rw [hb0]; exact hw
 simp only [evs, evb, txt_eql, decide_eq_false_iff_not] at g
 have P1 : ∀ {q : MX × VX}, (if p = [119, 114, 105, 116, 101, 45, 117, 56] then
  let a := args.getD 0 vNone
  if a.kind ≠ 1 then ({ s.x with e := 80 }, vVoid)
  else if a.int < 0 ∨ 255 < a.int then ({ s.x with e := 83 }, vVoid)
  else ({ s.x with out := s.x.out ++ [UInt8.ofNat a.int.toNat] }, vVoid)
 else if p = [101, 114, 114, 111, 114] then ({ s.x with e := 92 }, vVoid)
 else if p = [37, 119, 105, 110, 100, 101, 114, 115] then (s.x, s.x.winders)
 else if p = [37, 119, 105, 110, 100, 33] then ({ s.x with winders := args.getD 0 vNone }, vVoid)
 else
  let r := doX s.x.h p args
  ({ s.x with h := r.1, e := r.2.2 }, r.2.1)) = q → s.x.prim p args = q := fun hq => by
  rw [← hq]; unfold MX.prim; rw [if_neg g]
 refine ⟨fun g2 => ?_, fun g2 => ?_⟩
 ·simp only [evs, evb, txt_eql, decide_eq_true_eq] at g2
  have hal := one (k := 1) (q := [119, 114, 105, 116, 101, 45, 117, 56]) (by decide +kernel) g2
  obtain ⟨a, rfl⟩ : ∃ a, args = [a] := by
   match args, hal with
   | [a], _ => exact ⟨a, rfl⟩
   | [], hal => exact absurd hal (by decide)
   | a :: b :: l, hal => exfalso; simp only [List.length_cons] at hal; omega
  obtain ⟨y1, _, ycs, y2, y3⟩ := hargs.get (i := 0) (a := a) rfl
  obtain ⟨rfl, yf⟩ := val_cs y2
  have hP := P1 (by rw [if_pos g2])
  have y3' := rowAt_le h.sh y3
  refine ⟨fun _ => ?_, [.int .i64 a.kind], rfl, by simp only [evs, evb]; exact rowAt_sub y3' 0 1, fun g3 => ?_, fun g3 => ?_⟩
  ·simp only [Chk.holds, evs, evb]; exact ⟨y1, by omega, by simp⟩
  ·simp only [evs, evb, ne_eq, decide_not, Bool.not_eq_true', decide_eq_false_iff_not] at g3
   refine ⟨fun _ => by simp [Chk.holds, evs, evb], ?_⟩
   refine mach_err (e := 80) h hf (by simp only [evs, evb]; rfl) (by simp only [evs, evb]) fun K2 h2 f2 => ⟨S, _, PH.le_refl _, h2, f2, ?_, ?_, ?_, rfl, rfl⟩
   ·rw [hP]; simp only [List.getD_cons_zero]; rw [if_pos g3]; rfl
   ·rw [hP]; simp only [List.getD_cons_zero]; rw [if_pos g3]; rfl
   ·rw [hP]; simp only [List.getD_cons_zero]; rw [if_pos g3]; exact fit_void
  ·simp only [evs, evb, ne_eq, decide_not, Bool.not_eq_false', decide_eq_true_eq] at g3
   have hP2 : s.x.prim p [a] = if a.int < 0 ∨ 255 < a.int then ({ s.x with e := 83 }, vVoid) else ({ s.x with out := s.x.out ++ [UInt8.ofNat a.int.toNat] }, vVoid) := by
    rw [hP]; simp only [List.getD_cons_zero]; rw [if_neg (fun hh => hh g3)]
   refine ⟨fun vs K1 => vs = [.bool (decide (a.int < 0 ∨ 255 < a.int))] ∧ K = K1, ?_, ?_⟩
   rotate_left
   ·refine ⟨[.int .i64 a.int], rfl, by simp only [evs, evb]; exact rowAt_sub y3' 1 1, fun g4 => ?_, fun g4 => ?_⟩
    ·simp only [evs, evb, decide_eq_true_eq] at g4
     exact ⟨_, lookup_hit, by simp [evs, evb, g4], rfl⟩
    ·simp only [evs, evb, decide_eq_false_iff_not] at g4
     refine ⟨[.int .i64 a.int], rfl, by simp only [evs, evb]; exact rowAt_sub y3' 1 1, _, lookup_hit, ?_, rfl⟩
     simp [evs, evb, g4]
   rintro vs K1 _ ⟨rfl, rfl⟩
   refine ⟨fun g4 => ?_, fun g4 => ?_⟩
   ·simp only [evs, evb, decide_eq_true_eq] at g4
    refine ⟨fun _ => by simp [Chk.holds, evs, evb], ?_⟩
    refine mach_err (e := 83) h hf (by simp only [evs, evb]; rfl) (by simp only [evs, evb]) fun K2 h2 f2 => ⟨S, _, PH.le_refl _, h2, f2, ?_, ?_, ?_, rfl, rfl⟩
    ·rw [hP2, if_pos g4]; rfl
    ·rw [hP2, if_pos g4]; rfl
    ·rw [hP2, if_pos g4]; exact fit_void
   ·simp only [evs, evb, decide_eq_false_iff_not] at g4
    rw [if_neg g4] at hP2
    obtain ⟨ob, oc, hov⟩ := mach_osl h
    have hl5 : rowAt K (some ⟨mr, 5, none⟩) [.slice ob s.out.length oc] := by rw [← hov]; exact mach_bx h rfl
    refine ⟨fun _ => by simp [Chk.holds, evs, evb], [.slice ob s.out.length oc], rfl, by simp only [evs, evb]; exact hl5, [.int .i64 a.int], rfl, by simp only [evs, evb]; exact rowAt_sub y3' 1 1, ?_⟩
    simp only [cns]
    have h4 := h.perm permO
    have h4' : Held S K (orow 5 s.out (.slice ob s.out.length oc) :: restO pv mr hr s J) := by rw [← hov]; exact h4
    have hby : byteOf a.int = UInt8.ofNat a.int.toNat := by unfold byteOf; congr 1; omega
    refine den_hPush (b := 1) (more := [byteOf a.int]) [.int .u8 ((byteOf a.int).toNat : Int)] uBytes elemByteK rfl (by decide) (by decide) h4' ?_ (.cons (csByteK _ _) .nil) (pendOne (by simp only [evs, evb]; exact hl5)) (fun w => by kernel_rfl) (fun w => by kernel_rfl)
     (by simp only [List.length_cons, List.length_nil]; omega) (by simp only [List.length_cons, List.length_nil]; omega) fun w v7 S7 K7 l7 h7 => ⟨pendNil, ?_⟩
    ·rw [← u8conv]; kernel_rfl
    obtain ⟨b7, c7, hv7⟩ := (h7.row (List.mem_cons_self ..)).sl
    refine den_bxStore (off := 5) (vs := [v7]) (by simp only [evs, evb]; rfl) h7.swap rfl (by
     intro u hu
     rw [List.mem_singleton.1 hu, hv7]; rfl) (by simp [MS.cells]) fun K8 h8 => ?_
    obtain ⟨s2, hs2⟩ : ∃ s2 : MS, s2 = { s with out := s.out ++ [byteOf a.int], ov := v7 } := ⟨_, rfl⟩
    have h9 : Held S7 K8 (machI pv mr hr s2 ++ J) := by
     subst hs2
     refine h8.swap.perm ?_
     exact (permO (s := { s with out := s.out ++ [byteOf a.int], ov := v7 }) (pv := pv) (mr := mr) (hr := hr) (J := J)).symm
    refine ⟨S7, s2, l7, h9, by rw [hs2]; exact hf, ?_, ?_, ?_, by rw [hs2], by rw [hs2]⟩
    ·rw [hP2, hs2, hby]; rfl
    ·rw [hP2]; rfl
    ·rw [hP2]; exact fit_void
 simp only [evs, evb, txt_eql, decide_eq_false_iff_not] at g2
 refine ⟨fun g3 => ?_, fun g3 => ?_⟩
 ·simp only [evs, evb, txt_eql, decide_eq_true_eq] at g3
  have hP := P1 (by rw [if_neg g2, if_pos g3])
  refine ⟨fun _ => by simp [Chk.holds, evs, evb], ?_⟩
  refine mach_err (e := 92) h hf (by simp only [evs, evb]; rfl) (by simp only [evs, evb]) fun K2 h2 f2 => ⟨S, _, PH.le_refl _, h2, f2, by rw [hP]; rfl, by rw [hP]; rfl, by rw [hP]; exact fit_void, rfl, rfl⟩
 simp only [evs, evb, txt_eql, decide_eq_false_iff_not] at g3
 refine ⟨fun g4 => ?_, fun g4 => ?_⟩
 ·simp only [evs, evb, txt_eql, decide_eq_true_eq] at g4
  have hP := P1 (by rw [if_neg g2, if_neg g3, if_pos g4])
  refine ⟨fun _ => by simp [Chk.holds, evs, evb], [.int .i64 s.w.kind, .int .i64 s.w.int, txt s.w.text], rfl, by simp only [evs, evb]; exact mach_bx h rfl, S, s, PH.le_refl _, h, hf, by rw [hP], by rw [hP]; rfl, by rw [hP]; exact hf.1, rfl, rfl⟩
 simp only [evs, evb, txt_eql, decide_eq_false_iff_not] at g4
 refine ⟨fun g5 => ?_, fun g5 => ?_⟩
 ·simp only [evs, evb, txt_eql, decide_eq_true_eq] at g5
  have hal := one (k := 1) (q := [37, 119, 105, 110, 100, 33]) (by decide +kernel) g5
  obtain ⟨a, rfl⟩ : ∃ a, args = [a] := by
   match args, hal with
   | [a], _ => exact ⟨a, rfl⟩
   | [], hal => exact absurd hal (by decide)
   | a :: b :: l, hal => exfalso; simp only [List.length_cons] at hal; omega
  obtain ⟨y1, _, ycs, y2, y3⟩ := hargs.get (i := 0) (a := a) rfl
  obtain ⟨rfl, yf⟩ := val_cs y2
  have hP := P1 (by rw [if_neg g2, if_neg g3, if_neg g4, if_pos g5])
  simp only [List.getD_cons_zero] at hP
  have y3' := rowAt_le h.sh y3
  refine ⟨fun _ => ?_, valVs a, rfl, by simp only [evs, evb]; exact y3', fun _ => by simp [Chk.holds, evs, evb], ?_⟩
  ·simp only [Chk.holds, evs, evb]; exact ⟨y1, by omega, by simp⟩
  simp only [cns]
  refine den_bxStore (off := 6) (vs := [.int .i64 a.kind, .int .i64 a.int, txt a.text]) (by simp only [evs, evb]; rfl) (mach_held h) rfl (by
   intro u hu
   simp only [List.mem_cons, List.not_mem_nil, or_false] at hu
   rcases hu with rfl | rfl | rfl <;> rfl) (by simp [MS.cells]) fun K1 h1 => ?_
  refine ⟨S, { s with w := a }, PH.le_refl _, ?_, ⟨yf, hf.2⟩, by rw [hP]; rfl, by rw [hP]; rfl, by rw [hP]; exact fit_void, rfl, rfl⟩
  exact Eq.mp (congrArg (Held S K1) (permBx (s := s) (s' := { s with w := a }) rfl rfl rfl rfl rfl rfl rfl rfl)) h1
 simp only [evs, evb, txt_eql, decide_eq_false_iff_not] at g5
 have hP := P1 (by rw [if_neg g2, if_neg g3, if_neg g4, if_neg g5])
 refine ⟨fun _ => by simp [Chk.holds, evs, evb], [pAt hr], rfl, by simp only [evs, evb]; exact mach_bx h rfl, ?_⟩
 simp only [cns]
 refine den_call cb_scrimshawref08_Heap__Do (HpTo.beside (h.perm permH) fun K hK => Do8_tri hr s.L s.thv p args _ S K hK hargs hco.heap (by omega)) ?_
 rintro x K1 ⟨rfl, S1, L1, thv1, l1, h2, hL1⟩
 have hd : doX s.x.h p args = doX (hpX s.L) p args := rfl
 rw [hd] at hP
 obtain ⟨_, _, hmay⟩ := doX_ok hco.heap p args
 have hlen := doX_len s.x.h p args
 have hhn := hco.hn
 rw [hd] at hmay hlen
 generalize doX (hpX s.L) p args = R at hP h2 hL1 hmay hlen ⊢
 obtain ⟨h', v, e⟩ := R
 have hfv : VFit v := may_fit (by omega) hmay
 refine ⟨_, [.int .i64 v.kind, .int .i64 v.int, txt v.text, .int .i64 e], rfl, rfl, rfl, pendNil, ?_⟩
 simp only [cns]
 obtain ⟨s1, hs1⟩ : ∃ s1 : MS, s1 = { s with L := L1, thv := thv1 } := ⟨_, rfl⟩
 have h3 : Held S1 K1 (machI pv mr hr s1 ++ J) := by
  subst hs1; exact h2.perm (permH (pv := pv) (mr := mr) (hr := hr) (s := { s with L := L1, thv := thv1 }) (J := J)).symm
 refine mach_err (e := e) h3 (by rw [hs1]; exact hf) (by simp only [evs, evb]; rfl) (by simp only [evs, evb]) fun K2 h4 f4 => ⟨S1, _, l1, h4, f4, ?_, by rw [hP]; rfl, by rw [hP]; exact hfv, by rw [hs1], by rw [hs1]⟩
 rw [hP, hs1]
 unfold MS.x
 simp only at hL1 ⊢
 rw [hL1]
end
end Go.Proofs.Ytcfgpbmcgmkmhaa.Vc
