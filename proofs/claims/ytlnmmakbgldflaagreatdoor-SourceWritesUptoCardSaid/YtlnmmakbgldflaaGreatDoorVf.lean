/-
  THE SYMBOLIC EXECUTOR IS RIGHT, part 3: 'lightL'.
-/
import Derived.Test.YtlnmmakbgldflaaGreatDoorVe
set_option linter.unusedSimpArgs false
set_option linter.unusedVariables false
set_option maxRecDepth 100000
namespace Go.Proofs.YtlnmmakbgldflaaGreatDoor.Vc
open Go

theorem run_v {P : Program} {x : Sem Value} {v : Value} {w w' : World} (h : x.run P w = .ok v w') : (do pure (Next.value (← x)) : Sem Next).run P w = .ok (.value v) w' := by
  simp [h]

theorem mkPick_ev {E : List Value} {r : Nat → Nat} (c x y : SV) : ev E r (mkPick c x y) = if bOf (ev E r c) then ev E r x else ev E r y := by
  unfold mkPick
  split
  · rename_i h; rw [← same_eq h]; simp
  · rfl
theorem pickV_ev {E : List Value} {r : Nat → Nat} {c : SV} {x y v : VE} (h : pickV c x y = some v) : evV E r v = if bOf (ev E r c) then evV E r x else evV E r y := by
  have core : ∀ x y v, (match x, y with
    | VE.sc x, VE.sc y => some (VE.sc (mkPick c x y))
    | .ag xs, .ag ys => if xs.length = ys.length then some (.ag (xs.zipWith (mkPick c) ys)) else none
    | _, _ => none) = some v → evV E r v = if bOf (ev E r c) then evV E r x else evV E r y := by
    intro x y v h
    split at h
    · cases h; exact mkPick_ev c _ _
    · rename_i xs ys
      split at h
      · rename_i hl
        cases h
        have : ∀ (xs ys : List SV), xs.length = ys.length → (xs.zipWith (mkPick c) ys).map (ev E r) = if bOf (ev E r c) then xs.map (ev E r) else ys.map (ev E r) := by
          intro xs
          induction xs with
          | nil => intro ys h; cases ys <;> simp at h ⊢
          | cons x xs ih =>
            intro ys h
            cases ys with
            | nil => simp at h
            | cons y ys =>
              simp only [List.zipWith_cons_cons, List.map_cons, mkPick_ev]
              rw [ih ys (by simpa using h)]
              split <;> rfl
        simp only [evV, this xs ys hl]
        split <;> rfl
      · cases h
    · cases h
  unfold pickV at h
  split at h
  · cases h; simp [ev, bOf]
  · cases h; simp [ev, bOf]
  · exact core _ _ _ h

section
variable {P : Program} {D : Prot} {H0 : PH} {w0 : World} {st : St} {E : List Value} {r : Nat → Nat} {H : PH} {a : Act} {w : World} {G : Guard}

/-- what 'lightL' promises of an operation -/
def LightOk (P : Program) (E : List Value) (r : Nat → Nat) (a : Act) (w : World) (op : Op) (v : VE) : Prop :=
  ∀ (d : Option Tmp) (ty : TypeId) (pos : String) (af : Array Edge) (gd : Option (Nat × Bool)), (execOp a.eval ⟨d, op, ty, pos, af, gd⟩).run P w = .ok (.value (evV E r v)) w

theorem holds_snoc {c : SV} {b : Bool} (hG : Guard.holds E r G) (h : bOf (ev E r c) = b) : Guard.holds E r (G ++ [(c, b)]) :=
  Guard.append hG (fun x hx => by rw [List.mem_singleton.1 hx]; exact h)

theorem light_pick (hR : Rel D H0 w0 st E r H a w) (hG : Guard.holds E r G) {c x y : Operand} {cks : List Chk} {v : VE} (h : lightL P st G (.pick c x y) = some (cks, v)) : LightOk P E r a w (.pick c x y) v := by
  intro d ty pos af gd
  simp only [lightL] at h
  split at h
  · rename_i s hs
    split at h
    · rename_i hb
      have es := ops1_sound hR hG hs
      have eb := ok_bool (tag_ev hR hb)
      have hrun : (execOp a.eval ⟨d, .pick c x y, ty, pos, af, gd⟩).run P w = .ok (.value (if bOf (ev E r s) then a.eval x else a.eval y)) w := by
        have : (Go.asBool (a.eval c)).run P w = .ok (bOf (ev E r s)) w := by rw [es, eb]; rfl
        simp [execOp, this]
      rw [hrun]
      split at h
      · rename_i vx hx; cases h
        rw [show bOf (ev E r (.bool true)) = true from rfl, if_pos rfl, opv_sound hR (holds_snoc hG rfl) hx]
      · rename_i vy hy; cases h
        rw [show bOf (ev E r (.bool false)) = false from rfl, if_neg Bool.false_ne_true, opv_sound hR (holds_snoc hG rfl) hy]
      · rename_i s x1 x0 s2 vx vy n1 n2 hx hy
        simp only [Option.map_eq_some_iff] at h
        obtain ⟨vv, hp, he⟩ := h
        cases he
        rw [pickV_ev hp]
        by_cases hh : bOf (ev E r s) = true
        · rw [if_pos hh, if_pos hh, opv_sound hR (holds_snoc hG hh) hx]
        · rw [if_neg hh, if_neg hh, opv_sound hR (holds_snoc hG (by simpa using hh)) hy]
      · cases h
    · cases h
  · cases h

theorem light_fieldAddr (hR : Rel D H0 w0 st E r H a w) (hG : Guard.holds E r G) {T : TypeId} {x : Operand} {f : Nat} {cks : List Chk} {v : VE} (h : lightL P st G (.fieldAddr T x f) = some (cks, v)) (hc : ∀ c ∈ cks, c.noBox = true ∧ c.holds E) :
    LightOk P E r a w (.fieldAddr T x f) v := by
  intro d ty pos af gd
  simp only [lightL, Option.bind_eq_bind, Option.bind_eq_some_iff] at h
  obtain ⟨p, hp, fd, hfd, i, hi, h⟩ := h
  obtain ⟨fs, hu, hf⟩ := fieldOff_run hfd
  have es := ops1_sound hR hG hp
  split at h
  · cases h
  · rename_i hz
    have place : ∀ ad : Addr, (Instr.fieldAt T (.pointer (some ad)) f).run P w = .ok (.pointer (some (ad.add fd.offset))) w := fun ad => by
      simp [Instr.fieldAt, run_und hu, hf, Instr.sureAddr, fieldPlace, run_siz hi, hz]
    refine run_v ?_
    show (Instr.fieldAt T (a.eval x) f).run P w = _
    rw [es]
    split at h
    · cases h
      show (Instr.fieldAt T (.pointer (some ⟨r _, _, none⟩)) f).run P w = _
      rw [place]
      show Result.ok (Value.pointer (some (Addr.add _ _))) w = Result.ok (Value.pointer (some _)) w
      unfold Addr.add
      split
      · rename_i hz; simp [hz]
      · rfl
    · split at h
      · rename_i hn ht
        cases h
        have e1 := ok_ptr (tag_ev hR ht)
        have hs := nn_sound hR hc
        obtain ⟨ad, had⟩ := Option.isSome_iff_exists.1 hs
        rw [e1, had, place]
        show _ = Result.ok (Value.pointer ((pOf (ev E r p)).map _)) w
        rw [had]; rfl
      · cases h

theorem light_nilCheck (hR : Rel D H0 w0 st E r H a w) (hG : Guard.holds E r G) {x : Operand} {cks : List Chk} {v : VE} (h : lightL P st G (.nilCheck x) = some (cks, v)) (hc : ∀ c ∈ cks, c.noBox = true ∧ c.holds E) :
    LightOk P E r a w (.nilCheck x) v := by
  intro d ty pos af gd
  simp only [lightL, Option.bind_eq_bind, Option.bind_eq_some_iff] at h
  obtain ⟨p, hp, h⟩ := h
  have es := ops1_sound hR hG hp
  have hptr : ∀ ad, a.eval x = .pointer (some ad) → (execOp a.eval ⟨d, .nilCheck x, ty, pos, af, gd⟩).run P w = .ok (.value (a.eval x)) w := fun ad h => by simp [execOp, h]
  split at h
  · cases h
    rw [hptr _ es, es]; rfl
  · cases h
    simp [execOp, es, ev, evV]
  · split at h
    · rename_i ht
      cases h
      have e1 := ok_ptr (tag_ev hR ht)
      have hs := nn_sound hR hc
      obtain ⟨ad, had⟩ := Option.isSome_iff_exists.1 hs
      rw [had] at e1
      rw [hptr ad (es.trans e1), es]; rfl
    · cases h

theorem light_load (hR : Rel D H0 w0 st E r H a w) (hG : Guard.holds E r G) {T : TypeId} {x : Operand} {cks : List Chk} {v : VE} (h : lightL P st G (.load T x) = some (cks, v)) : LightOk P E r a w (.load T x) v := by
  intro d ty pos af gd
  simp only [lightL, Option.bind_eq_bind, Option.bind_eq_some_iff] at h
  obtain ⟨p, hp, h⟩ := h
  have es := ops1_sound hR hG hp
  split at h
  · simp only [Option.bind_eq_some_iff] at h
    obtain ⟨b, hb, v', hv, h⟩ := h
    cases h
    obtain ⟨hm, hid⟩ := findBx_mem hb
    refine run_v ?_
    show (Instr.loadAt T (a.eval x)).run P w = _
    rw [es]
    have := partL_load (P := P) (T := T) (hR.bx b hm).1 hv
    subst hid
    simpa [Instr.loadAt, Instr.sureAddr, ev] using this
  · cases h

theorem light_binOp (hR : Rel D H0 w0 st E r H a w) (hG : Guard.holds E r G) {op : BinOp} {xT yT : TypeId} {x y : Operand} {cks : List Chk} {v : VE} (h : lightL P st G (.binOp op xT x y yT) = some (cks, v)) (hc : ∀ c ∈ cks, c.noBox = true ∧ c.holds E) :
    LightOk P E r a w (.binOp op xT x y yT) v := by
  intro d ty pos af gd
  simp only [lightL, Option.bind_eq_bind, Option.bind_eq_some_iff] at h
  obtain ⟨p, hp, q, hq, h⟩ := h
  have := binL_sound hR h hc x y
  rw [← ops1_sound hR hG hp, ← ops1_sound hR hG hq] at this
  exact run_v this

theorem light_unOp (hR : Rel D H0 w0 st E r H a w) (hG : Guard.holds E r G) {op : UnOp} {xT : TypeId} {x : Operand} {cks : List Chk} {v : VE} (h : lightL P st G (.unOp op xT x) = some (cks, v)) : LightOk P E r a w (.unOp op xT x) v := by
  intro d ty pos af gd
  simp only [lightL, Option.bind_eq_bind, Option.bind_eq_some_iff] at h
  obtain ⟨p, hp, h⟩ := h
  have es := ops1_sound hR hG hp
  refine run_v ?_
  show (Op.unary op (a.eval x)).run P w = _
  rw [es]
  split at h
  · rename_i ht; cases h
    rw [ok_bool (tag_ev hR ht)]; rfl
  · rename_i k ht; cases h
    rw [ok_int (tag_ev hR ht)]
    simp [Op.unary, Op.intArith, evV, ev, arI, iOf]
  · rename_i k ht; cases h
    rw [ok_int (tag_ev hR ht)]
    simp [Op.unary, Op.intBits, evV, ev, comI, iOf]
  · cases h

theorem light_convert (hR : Rel D H0 w0 st E r H a w) (hG : Guard.holds E r G) {s t : TypeId} {x : Operand} {cks : List Chk} {v : VE} (h : lightL P st G (.convert s t x) = some (cks, v)) : LightOk P E r a w (.convert s t x) v := by
  intro d ty pos af gd
  simp only [lightL, Option.bind_eq_bind, Option.bind_eq_some_iff] at h
  obtain ⟨p, hp, u, hu, h⟩ := h
  have es := ops1_sound hR hG hp
  refine run_v ?_
  show (convert s t (a.eval x)).run P w = _
  rw [es]
  split at h
  · rename_i k k' hd ht; cases h
    rw [ok_int (tag_ev hR ht)]
    simp [convert, run_und hu, run_und hd, Conv.intToInt, evV, ev, iOf]
  · rename_i hd ht; cases h
    rw [ok_str (tag_ev hR ht)]
    simp [convert, run_und hu, run_und hd, evV]
    exact (ok_str (tag_ev hR ht)).symm
  · cases h

theorem light_extract (hR : Rel D H0 w0 st E r H a w) (hG : Guard.holds E r G) {x : Operand} {i : Nat} {cks : List Chk} {v : VE} (h : lightL P st G (.extract x i) = some (cks, v)) : LightOk P E r a w (.extract x i) v := by
  intro d ty pos af gd
  simp only [lightL] at h
  split at h
  · rename_i vs hx
    refine run_v ?_
    show (Instr.extract (a.eval x) i).run P w = _
    rw [opv_sound hR hG hx]
    split at h
    · rename_i cs hi; cases h
      simp [Instr.extract, evV, hi, partV]
    · rename_i c l hi; cases h
      simp [Instr.extract, evV, hi, partV]
    · cases h
  · cases h

theorem light_field (hR : Rel D H0 w0 st E r H a w) (hG : Guard.holds E r G) {T : TypeId} {x : Operand} {f : Nat} {cks : List Chk} {v : VE} (h : lightL P st G (.field T x f) = some (cks, v)) : LightOk P E r a w (.field T x f) v := by
  intro d ty pos af gd
  simp only [lightL] at h
  split at h
  · rename_i cs hx
    simp only [Option.bind_eq_bind, Option.bind_eq_some_iff] at h
    obtain ⟨fd, hfd, v', hv, h⟩ := h
    cases h
    obtain ⟨fs, hu, hf⟩ := fieldOff_run hfd
    refine run_v ?_
    show (Instr.field T (a.eval x) f).run P w = _
    rw [opv_sound hR hG hx]
    have := partL_ev (E := E) (r := r) (w := w) hv
    simpa [Instr.field, run_und hu, hf, evV, asAgg] using this
  · cases h

theorem light_index (hR : Rel D H0 w0 st E r H a w) (hG : Guard.holds E r G) {T : TypeId} {x i : Operand} {cks : List Chk} {v : VE} (h : lightL P st G (.index T x i) = some (cks, v)) (hc : ∀ c ∈ cks, c.noBox = true ∧ c.holds E) : LightOk P E r a w (.index T x i) v := by
  intro d ty pos af gd
  simp only [lightL, Option.bind_eq_bind, Option.bind_eq_some_iff] at h
  obtain ⟨p, hp, q, hq, h⟩ := h
  split at h
  · rename_i k hu h1 h2
    cases h
    refine run_v ?_
    show (Instr.index T (a.eval x) (a.eval i)).run P w = _
    rw [ops1_sound hR hG hp, ops1_sound hR hG hq]
    have e1 := ok_str (tag_ev hR h1)
    have e2 := ok_int (tag_ev hR h2)
    obtain ⟨hb, hh⟩ := hc _ (List.mem_singleton.2 rfl)
    simp only [Chk.noBox, Bool.and_eq_true] at hb
    have hh : 0 ≤ iOf (ev0 E q) ∧ iOf (ev0 E q) < (sOf (ev0 E p)).size := hh
    rw [← ev_ev0 (r := r) hb.1, ← ev_ev0 (r := r) hb.2] at hh
    have hlt : (iOf (ev E r q)).toNat < (sOf (ev E r p)).size := by omega
    rw [e1, e2]
    have hget : (sOf (ev E r p))[(iOf (ev E r q)).toNat]? = some ((sOf (ev E r p))[(iOf (ev E r q)).toNat]'hlt) := by simp [hlt]
    simp only [Instr.index, asIntOf, Sem.run_bind, Sem.run_pure, Result.andThen_ok, run_und hu, hh.1, if_true, hget, evV, ev]
    simp
  · cases h

theorem eltV_some {s : Value} {ad : Addr} (h : slBase s = some ad) (i : Int) (z : Nat) : eltV s i z = .pointer (some (ad.add (i.toNat * z))) := by simp [eltV, h]

theorem light_indexAddr (hR : Rel D H0 w0 st E r H a w) (hG : Guard.holds E r G) {T : TypeId} {x i : Operand} {cks : List Chk} {v : VE} (h : lightL P st G (.indexAddr T x i) = some (cks, v)) (hc : ∀ c ∈ cks, c.noBox = true ∧ c.holds E) : LightOk P E r a w (.indexAddr T x i) v := by
  intro d ty pos af gd
  simp only [lightL, Option.bind_eq_bind, Option.bind_eq_some_iff] at h
  obtain ⟨p, hp, q, hq, h⟩ := h
  refine run_v ?_
  show (Instr.indexAt T (a.eval x) (a.eval i)).run P w = _
  rw [ops1_sound hR hG hp, ops1_sound hR hG hq]
  split at h
  · rename_i n e bd off k hu h2
    simp only [Option.bind_eq_some_iff] at h
    obtain ⟨inf, hi, h⟩ := h
    split at h
    · rename_i kk j
      split at h
      · rename_i hj
        cases h
        have h1 : ¬ n ≤ 1 := by omega
        simp [Instr.indexAt, ev, evV, asIntOf, run_und hu, Instr.sureAddr, hj.1, hj.2.1, run_siz hi]
        unfold Addr.add
        split
        · simp_all
        · rfl
      · cases h
    · cases h
  · rename_i p _ _ _ _ e k hu h2 h1
    simp only [Option.bind_eq_some_iff] at h
    obtain ⟨inf, hi, h⟩ := h
    cases h
    have e1 := ok_sl (tag_ev hR h1)
    have e2 := ok_int (tag_ev hR h2)
    have hh : (slBase (ev E r p)).isSome = true ∧ 0 ≤ iOf (ev E r q) ∧ iOf (ev E r q) < slLen (ev E r p) := by
      split at hc
      · rename_i hk
        obtain ⟨c, hm, he⟩ := List.any_eq_true.1 hk
        have e := ckSame_eq he
        obtain ⟨hb, hh⟩ := hR.kn c hm
        subst e
        simp only [Chk.noBox, Bool.and_eq_true] at hb
        rw [ev_ev0 hb.1, ev_ev0 hb.2]; exact hh
      · obtain ⟨hb, hh⟩ := hc _ (List.mem_singleton.2 rfl)
        simp only [Chk.noBox, Bool.and_eq_true] at hb
        rw [ev_ev0 hb.1, ev_ev0 hb.2]; exact hh
    obtain ⟨ad, had⟩ := Option.isSome_iff_exists.1 hh.1
    show _ = Result.ok (eltV (ev E r p) (iOf (ev E r q)) inf.size) w
    rw [eltV_some had]
    rw [e1, e2, had]
    simp [Instr.indexAt, asIntOf, run_und hu, hh.2.1, hh.2.2, run_siz hi]
    rfl
  · cases h

theorem light_len (hR : Rel D H0 w0 st E r H a w) (hG : Guard.holds E r G) {T ty : TypeId} {x : Operand} {s : SV} {cks : List Chk} {v : VE} (hs : ops1 st G x = some s) (h : lenL P T st.tags s = some (cks, v)) :
    (Builtin.len_ #[T] ty #[a.eval x]).run P w = .ok (evV E r v) w := by
  rw [ops1_sound hR hG hs]
  unfold lenL at h
  split at h
  · rename_i hu h1
    have e1 := ok_str (tag_ev hR h1)
    have hl : (Builtin.len_ #[T] ty #[ev E r s]).run P w = .ok (.int .i64 (sOf (ev E r s)).size) w := by
      rw [e1]; simp [Builtin.len_, run_und hu, goInt, sOf]
    rw [hl]
    split at h
    · cases h; simp [evV, ev, sOf, ByteArray.size]
    · cases h; rfl
  · rename_i e hu h1
    cases h
    rw [ok_sl (tag_ev hR h1)]
    simp [Builtin.len_, run_und hu, goInt, evV, ev]
  · cases h

theorem arr1 {α : Type} {l : Array α} {x : α} (h : l.toList = [x]) : l = #[x] := by
  have := congrArg List.toArray h; simpa using this
theorem arr2 {α : Type} {l : Array α} {x y : α} (h : l.toList = [x, y]) : l = #[x, y] := by
  have := congrArg List.toArray h; simpa using this

theorem light_call (hR : Rel D H0 w0 st E r H a w) (hG : Guard.holds E r G) {c : Call} {cks : List Chk} {v : VE} (h : callL P st G c = some (cks, v)) : LightOk P E r a w (.call c) v := by
  intro d ty pos af gd
  obtain ⟨cal, args, tys⟩ := c
  simp only [callL] at h
  split at h
  · rename_i x T h1 h2
    rw [arr1 h1, arr1 h2]
    split at h
    · rename_i s hs
      have := light_len (ty := ty) hR hG hs h
      simp [execOp, resolve, invoke, builtin, this]
    · cases h
  · rename_i x T h1 h2
    rw [arr1 h1, arr1 h2]
    split at h
    · rename_i s hs
      split at h
      · rename_i e hu ht
        cases h
        have : (Builtin.cap_ #[T] ty #[a.eval x]).run P w = .ok (.int .i64 (slCap (ev E r s))) w := by
          rw [ops1_sound hR hG hs, ok_sl (tag_ev hR ht)]
          simp [Builtin.cap_, run_und hu, goInt, slCap]
        simp [execOp, resolve, invoke, builtin, this, evV, ev]
      · cases h
    · cases h
  · rename_i x y hl
    rw [arr2 hl]
    split at h
    · rename_i p q hp hq
      split at h
      · rename_i k k' h1 h2
        split at h
        · rename_i hk
          subst hk
          cases h
          have : (Builtin.min_ tys ty #[a.eval x, a.eval y]).run P w = .ok (evV E r (.sc (.pick (.cmp .lss q p) q p))) w := by
            rw [ops1_sound hR hG hp, ops1_sound hR hG hq]
            have e1 := ok_int (tag_ev hR h1)
            have e2 := ok_int (tag_ev hR h2)
            simp only [evV, ev, cmpI, bOf, decide_eq_true_eq]
            generalize iOf (ev E r p) = i at *
            generalize iOf (ev E r q) = j at *
            rw [e1, e2]
            simp only [Builtin.min_, List.foldlM, Builtin.min2, Sem.run_bind, Sem.run_pure, Result.andThen_ok]
            split <;> rfl
          simp [execOp, resolve, invoke, builtin, this]
        · cases h
      · cases h
    · cases h
  · rename_i x y hl
    rw [arr2 hl]
    split at h
    · rename_i p q hp hq
      split at h
      · rename_i k k' h1 h2
        split at h
        · rename_i hk
          subst hk
          cases h
          have : (Builtin.max_ tys ty #[a.eval x, a.eval y]).run P w = .ok (evV E r (.sc (.pick (.cmp .gtr q p) q p))) w := by
            rw [ops1_sound hR hG hp, ops1_sound hR hG hq]
            have e1 := ok_int (tag_ev hR h1)
            have e2 := ok_int (tag_ev hR h2)
            simp only [evV, ev, cmpI, bOf, decide_eq_true_eq]
            generalize iOf (ev E r p) = i at *
            generalize iOf (ev E r q) = j at *
            rw [e1, e2]
            simp only [Builtin.max_, List.foldlM, Builtin.max2, Sem.run_bind, Sem.run_pure, Result.andThen_ok]
            split <;> rfl
          simp [execOp, resolve, invoke, builtin, this]
        · cases h
      · cases h
    · cases h
  · cases h

theorem optOp_sound (hR : Rel D H0 w0 st E r H a w) (hG : Guard.holds E r G) {x : Option Operand} {d s : SV} (h : optOp st G x d = some s) :
    (x = none ∧ s = d) ∨ ∃ y, x = some y ∧ a.eval y = ev E r s := by
  unfold optOp at h
  split at h
  · exact .inr ⟨_, rfl, ops1_sound hR hG h⟩
  · cases h; exact .inl ⟨rfl, rfl⟩

/-- both bounds, given or not -/
theorem run_bounds {lo hi : Option Value} {l h n len : Int} {m nl : Nat} {k1 k2 : IntKind} (isS : Bool) (hm : n = m) (hlen : len = nl) (hb : 0 ≤ l ∧ l ≤ h ∧ h ≤ n)
    (h1 : (lo = none ∧ l = 0) ∨ lo = some (.int k1 l)) (h2 : (hi = none ∧ h = len) ∨ hi = some (.int k2 h)) (w : World) :
    (Instr.sliceBounds isS nl m lo hi none).run P w = .ok (l.toNat, h.toNat, m) w := by
  subst hm hlen
  have c1 : 0 ≤ h ∧ h ≤ (m : Int) := by omega
  have c2 : 0 ≤ l ∧ l ≤ (h.toNat : Int) := by omega
  rcases h1 with ⟨rfl, rfl⟩ | rfl <;> rcases h2 with ⟨rfl, rfl⟩ | rfl
  · simp only [Instr.sliceBounds, Sem.run_bind, Sem.run_pure, Result.andThen_ok]; rfl
  · simp only [Instr.sliceBounds, Instr.sliceBound, asIntOf, Sem.run_bind, Sem.run_pure, Result.andThen_ok, Sem.run_ite, if_pos c1]; rfl
  · have c3 : 0 ≤ l ∧ l ≤ (nl : Int) := by omega
    simp only [Instr.sliceBounds, Instr.sliceBound, asIntOf, Sem.run_bind, Sem.run_pure, Result.andThen_ok, Sem.run_ite, if_pos c3]; rfl
  · simp only [Instr.sliceBounds, Instr.sliceBound, asIntOf, Sem.run_bind, Sem.run_pure, Result.andThen_ok, Sem.run_ite, if_pos c1, if_pos c2]

theorem light_slice (hR : Rel D H0 w0 st E r H a w) (hG : Guard.holds E r G) {T : TypeId} {x : Operand} {lo hi : Option Operand} {cks : List Chk} {v : VE} (h : lightL P st G (.slice T x lo hi none) = some (cks, v)) (hc : ∀ c ∈ cks, c.noBox = true ∧ c.holds E) :
    LightOk P E r a w (.slice T x lo hi none) v := by
  intro d ty pos af gd
  simp only [lightL, Option.bind_eq_bind, Option.bind_eq_some_iff] at h
  obtain ⟨p, hp, l, hl, h⟩ := h
  have ep := ops1_sound hR hG hp
  have el := optOp_sound hR hG hl
  refine run_v ?_
  show (Instr.sliceAt T (a.eval x) (lo.map a.eval) (hi.map a.eval) none).run P w = _
  rw [ep]
  split at h
  · rename_i kl hu hs hti
    simp only [Option.bind_eq_some_iff] at h
    obtain ⟨u, hu2, h⟩ := h
    have eu := optOp_sound hR hG hu2
    split at h
    · rename_i ku htu
      cases h
      obtain ⟨hb, hh⟩ := hc _ (List.mem_singleton.2 rfl)
      simp only [Chk.noBox, SV.noBox, Bool.and_eq_true] at hb
      have hh : 0 ≤ iOf (ev0 E l) ∧ iOf (ev0 E l) ≤ iOf (ev0 E u) ∧ iOf (ev0 E u) ≤ iOf (ev0 E (.slen p)) := hh
      rw [← ev_ev0 (r := r) hb.1.2, ← ev_ev0 (r := r) hb.2, ← ev_ev0 (r := r) (s := .slen p) (by simpa [SV.noBox] using hb.1.1)] at hh
      have e1 := ok_str (tag_ev hR hs)
      have e2 := ok_int (tag_ev hR hti)
      have e3 := ok_int (tag_ev hR htu)
      have hbnd := run_bounds (P := P) (lo := lo.map a.eval) (hi := hi.map a.eval) (l := iOf (ev E r l)) (h := iOf (ev E r u)) (m := (sOf (ev E r p)).size) (nl := (sOf (ev E r p)).size) (len := (sOf (ev E r p)).size) (k1 := kl) (k2 := ku) false rfl rfl hh
        (by rcases el with ⟨rfl, rfl⟩ | ⟨y, rfl, ey⟩
            · exact .inl ⟨rfl, rfl⟩
            · exact .inr (by rw [Option.map_some, ey, ← e2]))
        (by rcases eu with ⟨rfl, rfl⟩ | ⟨y, rfl, ey⟩
            · exact .inl ⟨rfl, rfl⟩
            · exact .inr (by rw [Option.map_some, ey, ← e3])) w
      rw [e1]
      simp [Instr.sliceAt, Instr.slice, run_und hu, hbnd, evV, ev]
    · cases h
  · rename_i e kl hu hs hti
    simp only [Option.bind_eq_some_iff] at h
    obtain ⟨u, hu2, inf, hinf, h⟩ := h
    have eu := optOp_sound hR hG hu2
    split at h
    · rename_i ku htu
      cases h
      obtain ⟨hb, hh⟩ := hc _ (List.mem_singleton.2 rfl)
      simp only [Chk.noBox, SV.noBox, Bool.and_eq_true] at hb
      have hh : 0 ≤ iOf (ev0 E l) ∧ iOf (ev0 E l) ≤ iOf (ev0 E u) ∧ iOf (ev0 E u) ≤ iOf (ev0 E (.cap p)) := hh
      rw [← ev_ev0 (r := r) hb.1.2, ← ev_ev0 (r := r) hb.2, ← ev_ev0 (r := r) (s := .cap p) (by simpa [SV.noBox] using hb.1.1)] at hh
      have e1 := ok_sl (tag_ev hR hs)
      have e2 := ok_int (tag_ev hR hti)
      have e3 := ok_int (tag_ev hR htu)
      have hbnd := run_bounds (P := P) (lo := lo.map a.eval) (hi := hi.map a.eval) (l := iOf (ev E r l)) (h := iOf (ev E r u)) (m := slCap (ev E r p)) (nl := slLen (ev E r p)) (len := slLen (ev E r p)) (k1 := kl) (k2 := ku) true rfl rfl hh
        (by rcases el with ⟨rfl, rfl⟩ | ⟨y, rfl, ey⟩
            · exact .inl ⟨rfl, rfl⟩
            · exact .inr (by rw [Option.map_some, ey, ← e2]))
        (by rcases eu with ⟨rfl, rfl⟩ | ⟨y, rfl, ey⟩
            · exact .inl ⟨rfl, rfl⟩
            · exact .inr (by rw [Option.map_some, ey, ← e3])) w
      rw [e1]
      simp [Instr.sliceAt, Instr.slice, run_und hu, hbnd, run_siz hinf, evV, ev, slsV]
    · cases h
  · cases h

theorem setAll (vs : List Value) : ∀ (k off : Nat) (cells : Array Value), off + k + vs.length ≤ cells.size →
    ((vs.zipIdx k).foldl (fun (cs : Array Value) (x : Value × Nat) => cs.setIfInBounds (off + x.2) x.1) cells).toList = cells.toList.take (off + k) ++ vs ++ cells.toList.drop (off + k + vs.length) := by
  induction vs with
  | nil => intro k off cells _; simp
  | cons v vs ih =>
    intro k off cells h
    simp only [List.length_cons] at h
    simp only [List.zipIdx_cons, List.foldl_cons]
    rw [ih (k + 1) off _ (by simp; omega)]
    have hlen : off + k < cells.toList.length := by simp; omega
    have e1 : (cells.setIfInBounds (off + k) v).toList.take (off + (k + 1)) = cells.toList.take (off + k) ++ [v] := by
      rw [Array.toList_setIfInBounds, ← Nat.add_assoc, List.take_succ_eq_append_getElem (by simp; omega), List.take_set_of_le (Nat.le_refl _)]
      simp
    have e2 : (cells.setIfInBounds (off + k) v).toList.drop (off + (k + 1) + vs.length) = cells.toList.drop (off + k + (v :: vs).length) := by
      rw [Array.toList_setIfInBounds, List.drop_set_of_lt (by omega)]
      congr 1
      simp only [List.length_cons]; omega
    rw [e1, e2]
    simp

theorem cells_oneC {v : Value} (h : oneC v = true) : v.cells = #[v] := by cases v <;> first | rfl | exact absurd h Bool.false_ne_true
theorem cellsOfVE_ev (hR : Rel D H0 w0 st E r H a w) {v : VE} {cs : List SV} (h : cellsOfVE v = some cs) : (evV E r v).cells = (cs.map (ev E r)).toArray := by
  unfold cellsOfVE at h
  split at h
  · cases h; exact cells_oneC (ev_oneC r hR.tags _)
  · cases h; rfl
  · cases h

theorem fillL_ev (hR : Rel D H0 w0 st E r H a w) (place : Nat → Option (Nat × Nat)) : ∀ (ps : List (Nat × VE)) (cells : List SV) (out : List SV), fillL place cells ps = some out →
    Instr.fill place (cells.map (ev E r)).toArray (ps.map fun p => (p.1, evV E r p.2)) = some (out.map (ev E r)).toArray := by
  intro ps
  induction ps with
  | nil => intro cells out h; simp [fillL] at h; subst h; rfl
  | cons p ps ih =>
    intro cells out h
    obtain ⟨i, v⟩ := p
    simp only [fillL] at h
    split at h
    · rename_i off size cs hpl hcs
      split at h
      · rename_i hsz
        have hv : (evV E r v).cells = (cs.map (ev E r)).toArray := cellsOfVE_ev hR hcs
        have hst := setAll (cs.map (ev E r)) 0 off (cells.map (ev E r)).toArray (by simp; omega)
        simp only [List.map_cons, Instr.fill, hpl, hv]
        rw [if_neg (by simp; omega)]
        have := ih _ _ h
        rw [← this]
        congr 1
        apply Array.ext'
        rw [← Array.foldl_toList, Array.toList_zipIdx, hst]
        simp [List.map_take, List.map_drop]
      · cases h
    · cases h
theorem opvs_sound (hR : Rel D H0 w0 st E r H a w) (hG : Guard.holds E r G) : ∀ {l : List (Nat × Operand)} {ps : List (Nat × VE)}, (l.mapM fun p => (opv st G p.2).map fun v => (p.1, v)) = some ps →
    l.map (fun p => (p.1, a.eval p.2)) = ps.map fun p => (p.1, evV E r p.2)
  | [], ps, h => by simp at h; subst h; rfl
  | p :: l, ps, h => by
    simp only [List.mapM_cons, Option.bind_eq_bind, Option.bind_eq_some_iff, Option.map_eq_some_iff] at h
    obtain ⟨q, ⟨v, hv, rfl⟩, qs, hqs, h⟩ := h
    cases h
    simp only [List.map_cons, opv_sound hR hG hv, opvs_sound hR hG hqs]

theorem zeroL_run {t : TypeId} {v : VE} (h : zeroL P t = some v) : (zeroValue t).run P w = .ok (evV E r v) w := by
  unfold zeroL at h
  split at h
  · rename_i i hi
    simp only [Option.bind_eq_some_iff] at h
    obtain ⟨z, hz, hv⟩ := h
    simp [zeroValue, run_inf hi, hz, constV_ev hv]
  · cases h

theorem places_run : ∀ {l : List Field} {ps : List (Nat × Nat)}, (l.mapM fun f => (P.info? f.type).map fun i => (f.offset, i.size)) = some ps →
    (l.mapM fun f => (do pure (f.offset, ← sizeOf f.type) : Sem (Nat × Nat))).run P w = .ok ps w
  | [], ps, h => by simp at h; subst h; simp
  | f :: l, ps, h => by
    simp only [List.mapM_cons, Option.bind_eq_bind, Option.bind_eq_some_iff, Option.map_eq_some_iff] at h
    obtain ⟨q, ⟨i, hi, rfl⟩, qs, hqs, h⟩ := h
    cases h
    simp only [List.mapM_cons, Sem.run_bind, run_siz hi, Result.andThen_ok, Sem.run_pure, places_run hqs]

theorem light_build (hR : Rel D H0 w0 st E r H a w) (hG : Guard.holds E r G) {T : TypeId} {parts : Array (Nat × Operand)} {cks : List Chk} {v : VE} (h : lightL P st G (.build T parts) = some (cks, v)) : LightOk P E r a w (.build T parts) v := by
  intro d ty pos af gd
  simp only [lightL] at h
  refine run_v ?_
  show (Instr.build T (parts.map fun (x : Nat × Operand) => (x.1, a.eval x.2))).run P w = _
  split at h
  · rename_i zs ps hz hps
    have hzr := zeroL_run (P := P) (w := w) (E := E) (r := r) hz
    have hparts : (parts.map fun (x : Nat × Operand) => (x.1, a.eval x.2)).toList = ps.map fun p => (p.1, evV E r p.2) := by
      rw [Array.toList_map]; exact opvs_sound hR hG hps
    split at h
    · rename_i fs hu
      split at h
      · rename_i places hpl
        simp only [Option.map_eq_some_iff] at h
        obtain ⟨cs, hcs, he⟩ := h
        cases he
        have hf := fillL_ev hR (places[·]?) ps zs cs hcs
        have hp := places_run (P := P) (w := w) hpl
        have hp2 : (fs.mapM fun f => (do pure (f.offset, ← sizeOf f.type) : Sem (Nat × Nat))).run P w = .ok places.toArray w := by
          rw [Array.mapM_eq_mapM_toList]
          simp only [Sem.run_map, hp, Result.andThen_ok]
        have e1 : (evV E r (.ag zs)).cells = (zs.map (ev E r)).toArray := rfl
        have e2 : (fun x : Nat => places.toArray[x]?) = fun x => places[x]? := by funext x; simp
        simp only [Instr.build, Sem.run_bind, hzr, Result.andThen_ok, run_und hu, hp2, hparts, e1, e2, hf]
        rfl
      · cases h
    · rename_i n e hu
      split at h
      · rename_i inf hi
        simp only [Option.map_eq_some_iff] at h
        obtain ⟨cs, hcs, he⟩ := h
        cases he
        have hf := fillL_ev hR (fun i => some (i * inf.size, inf.size)) ps zs cs hcs
        have e1 : (evV E r (.ag zs)).cells = (zs.map (ev E r)).toArray := rfl
        simp only [Instr.build, Sem.run_bind, hzr, Result.andThen_ok, run_und hu, run_siz hi, hparts, e1, hf]
        rfl
      · cases h
    · cases h
  · cases h

theorem lightL_sound (hR : Rel D H0 w0 st E r H a w) (hG : Guard.holds E r G) {op : Op} {cks : List Chk} {v : VE} (h : lightL P st G op = some (cks, v)) (hc : ∀ c ∈ cks, c.noBox = true ∧ c.holds E) : LightOk P E r a w op v := by
  cases op with
  | move x =>
    simp only [lightL, Option.map_eq_some_iff] at h
    obtain ⟨u, hu, he⟩ := h
    cases he
    intro d ty pos af gd
    simp [execOp, opv_sound hR hG hu]
  | assign x =>
    simp only [lightL, Option.map_eq_some_iff] at h
    obtain ⟨u, hu, he⟩ := h
    cases he
    intro d ty pos af gd
    simp [execOp, opv_sound hR hG hu]
  | pick c x y => exact light_pick hR hG h
  | fieldAddr T x f => exact light_fieldAddr hR hG h hc
  | nilCheck x => exact light_nilCheck hR hG h hc
  | load T x => exact light_load hR hG h
  | binOp op xT x y yT => exact light_binOp hR hG h hc
  | unOp op xT x => exact light_unOp hR hG h
  | convert s t x => exact light_convert hR hG h
  | extract x i => exact light_extract hR hG h
  | field T x f => exact light_field hR hG h
  | index T x i => exact light_index hR hG h hc
  | indexAddr T x i => exact light_indexAddr hR hG h hc
  | call c => exact light_call hR hG h
  | slice T x lo hi mx =>
    cases mx with
    | none => exact light_slice hR hG h hc
    | some m => simp [lightL] at h
  | build T parts => exact light_build hR hG h
  | _ => simp [lightL] at h
end
end Go.Proofs.YtlnmmakbgldflaaGreatDoor.Vc
