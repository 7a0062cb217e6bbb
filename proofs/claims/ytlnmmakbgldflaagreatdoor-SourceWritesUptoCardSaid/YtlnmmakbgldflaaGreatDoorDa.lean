/-
  DATA: what the functions on bytes and names give.
-/
import Derived.Test.YtlnmmakbgldflaaGreatDoorFm
import Derived.Test.YtlnmmakbgldflaaGreatDoorShelf
import Derived.Test.YtlnmmakbgldflaaGreatDoorWf
import Derived.Laws.Strings
import Derived.Lib.IndexAny
set_option linter.unusedSimpArgs false
set_option linter.unusedVariables false
set_option maxRecDepth 100000
namespace Go.Proofs.YtlnmmakbgldflaaGreatDoor.Vc
open Go

theorem Tri.ofKept {P : Program} {f : FuncId} {args : List Value} {H : PH} {v : Value} (h : ∀ w, Calls P f args.toArray w fun e w' => e = .returned v ∧ w' = w) : Gives P f args H v :=
  fun w hv => (h w).mono fun e w' ⟨h1, h2⟩ => by subst h2; exact ⟨H, .refl hv, h1, PH.le_refl H⟩

theorem txt_get (l : List UInt8) (i : Nat) : (⟨l.toArray⟩ : ByteArray)[i]? = l[i]? := by
  by_cases h : i < l.length
  · rw [getElem?_pos _ _ (by simpa [ByteArray.size] using h), ByteArray.getElem_eq_getElem_data]; simp [h]
  · rw [getElem?_neg _ _ (by simpa [ByteArray.size] using h)]; simp; omega
theorem txt_eq {a b : List UInt8} : ((⟨a.toArray⟩ : ByteArray).toList == (⟨b.toArray⟩ : ByteArray).toList) = decide (a = b) := by
  rw [ByteArray.toList_mk, ByteArray.toList_mk]
  by_cases e : a = b <;> simp [e]

def digitI (c : Int) : Bool := if 48 ≤ c then decide (c ≤ 57) else false
theorem isDigit_gives (c : Int) (H : PH) : Gives Tryz.prog n_data_isDigit [.int .u8 c] H (.bool (digitI c)) := by
  refine tri_data_isDigit [.int .u8 c] (by kernel_rfl) (by kernel_rfl) ⟨?_, PH.le_refl H⟩
  simp [evV, ev, cmpI, iOf, bOf, digitI]
theorem Digit_gives (c : Int) (H : PH) : Gives Tryz.prog n_scrimshawref02_Digit [.int .u8 c] H (.bool (digitI c)) := by
  refine tri_scrimshawref02_Digit [.int .u8 c] (by kernel_rfl) (by kernel_rfl) ⟨?_, PH.le_refl H⟩
  simp [evV, ev, cmpI, iOf, bOf, digitI]
theorem IndexByte_gives (s : ByteArray) (c : Int) (H : PH) : Gives Tryz.prog n_strings_IndexByte [.string s, .int .u8 c] H (.int .i64 (Lib.indexByte s.data.toList c.toNat.toUInt8)) :=
  Tri.ofKept fun w => Tryz.strings_IndexByte s c w
def signsL : List UInt8 := [33, 36, 37, 38, 42, 47, 58, 60, 61, 62, 63, 94, 95, 126, 43, 45, 46, 64]
def nameB (c : UInt8) : Bool := digitI c.toNat || (decide (97 ≤ c) && decide (c ≤ 122)) || (decide (65 ≤ c) && decide (c ≤ 90)) || signsL.contains c

theorem get_txt {l : List UInt8} {k : Nat} {x : UInt8} (h : l[k]? = some x) : ((⟨l.toArray⟩ : ByteArray)[((k : Int)).toNat]?).getD 0 = x := by rw [Int.toNat_natCast, txt_get, h]; rfl
theorem u8_beq (a b : UInt8) : ((a.toNat : Int) == (b.toNat : Int)) = decide (a = b) := by
  by_cases h : a = b
  · simp [h]
  · have : ¬ a.toNat = b.toNat := fun e => h (UInt8.toNat_inj.1 e)
    simp [h]; omega
theorem u8_le (a b : UInt8) : ((a.toNat : Int) ≤ (b.toNat : Int)) ↔ a ≤ b := by rw [UInt8.le_iff_toNat_le]; omega
theorem nameB_eq (c : UInt8) : nameB c = if (if (if digitI c.toNat = true then true else if decide (97 ≤ (c.toNat : Int)) = true then decide ((c.toNat : Int) ≤ 122) else false) = true then true else if decide (65 ≤ (c.toNat : Int)) = true then decide ((c.toNat : Int) ≤ 90) else false) = true then true else signsL.contains c := by
  have h1 := u8_le 97 c
  have h2 := u8_le c 122
  have h3 := u8_le 65 c
  have h4 := u8_le c 90
  have e1 : decide (97 ≤ (c.toNat : Int)) = decide (97 ≤ c) := by simpa using h1
  have e2 : decide ((c.toNat : Int) ≤ 122) = decide (c ≤ 122) := by simpa using h2
  have e3 : decide (65 ≤ (c.toNat : Int)) = decide (65 ≤ c) := by simpa using h3
  have e4 : decide ((c.toNat : Int) ≤ 90) = decide (c ≤ 90) := by simpa using h4
  unfold nameB
  rw [e1, e2, e3, e4]
  cases digitI c.toNat <;> cases decide (97 ≤ c) <;> cases decide (c ≤ 122) <;> cases decide (65 ≤ c) <;> cases decide (c ≤ 90) <;> simp

theorem Byte_gives (c : UInt8) (H : PH) : Gives Tryz.prog n_scrimshawref02_Byte [.int .u8 c.toNat] H (.bool (nameB c)) := by
  refine tri_scrimshawref02_Byte [.int .u8 c.toNat] (by kernel_rfl) (by kernel_rfl) ?_
  refine den_gives [.bool (digitI c.toNat)] cb_scrimshawref02_Digit (Digit_gives _ _) rfl pendNil fun H1 h1 => ?_
  refine ⟨fun hc => ?_, fun hc => ?_⟩
  · refine ⟨?_, h1⟩
    simp only [ev0, ev, evV, List.cons_append, List.nil_append, List.getD_cons_zero, List.getD_cons_succ, List.map_cons, List.map_nil, iOf, bOf, sOf, pOf, slLen, slBase, cmpI, arI, Value.ite_bool] at hc
    rw [nameB_eq, if_pos hc]; rfl
  · simp only [ev0, ev, evV, List.cons_append, List.nil_append, List.getD_cons_zero, List.getD_cons_succ, List.map_cons, List.map_nil, iOf, bOf, sOf, pOf, slLen, slBase, cmpI, arI, Value.ite_bool] at hc
    have hc' : nameB c = signsL.contains c := by rw [nameB_eq, if_neg (by rw [hc]; simp)]
    rw [hc']
    refine ⟨fun n vs H' => ∃ k : Nat, vs = [.bool false, .int .i64 k] ∧ k + n = 18 ∧ (∀ j, j < k → signsL[j]? ≠ some c) ∧ PH.le H H', ⟨18, 0, rfl, rfl, fun j hj => by omega, h1⟩, ?_⟩
    rintro n vs H' ht ⟨k, rfl, hn, hk, hl⟩
    refine ⟨fun hlt => ?_, fun hge => ?_⟩
    · simp only [ev0, ev, evV, List.cons_append, List.nil_append, List.getD_cons_zero, List.getD_cons_succ, List.map_cons, List.map_nil, iOf, bOf, sOf, pOf, slLen, slBase, cmpI, arI, Value.ite_bool, decide_eq_true_eq] at hlt
      have hk18 : k < 18 := by omega
      refine ⟨fun _ => ?_, fun he => ?_, fun he => ?_⟩
      · simp only [Chk.holds, ev0, ev, evV, List.cons_append, List.nil_append, List.getD_cons_zero, List.getD_cons_succ, List.map_cons, List.map_nil, iOf, bOf, sOf, pOf, slLen, slBase, cmpI, arI, Value.ite_bool]
        refine ⟨by omega, ?_⟩
        simp [ByteArray.size]; omega
      · simp only [ev0, ev, evV, List.cons_append, List.nil_append, List.getD_cons_zero, List.getD_cons_succ, List.map_cons, List.map_nil, iOf, bOf, sOf, pOf, slLen, slBase, cmpI, arI, Value.ite_bool] at he
        refine ⟨?_, hl⟩
        obtain ⟨x, hx⟩ : ∃ x, signsL[k]? = some x := ⟨_, List.getElem?_eq_getElem (show k < signsL.length from hk18)⟩
        rw [get_txt (l := [33, 36, 37, 38, 42, 47, 58, 60, 61, 62, 63, 94, 95, 126, 43, 45, 46, 64]) hx, u8_beq, decide_eq_true_eq] at he
        subst he
        have : signsL.contains x = true := by simpa using List.mem_of_getElem? hx
        rw [this]; rfl
      · obtain ⟨x, hx⟩ : ∃ x, signsL[k]? = some x := ⟨_, List.getElem?_eq_getElem (show k < signsL.length from hk18)⟩
        simp only [ev0, ev, evV, List.cons_append, List.nil_append, List.getD_cons_zero, List.getD_cons_succ, List.map_cons, List.map_nil, iOf, bOf, sOf, pOf, slLen, slBase, cmpI, arI, Value.ite_bool] at he
        rw [get_txt (l := [33, 36, 37, 38, 42, 47, 58, 60, 61, 62, 63, 94, 95, 126, 43, 45, 46, 64]) hx, u8_beq, decide_eq_false_iff_not] at he
        refine ⟨_, lookup_hit, n - 1, by omega, k + 1, ?_, by omega, ?_, hl⟩
        · simp only [ev0, ev, evV, List.cons_append, List.nil_append, List.getD_cons_zero, List.getD_cons_succ, List.map_cons, List.map_nil, iOf, bOf, sOf, pOf, slLen, slBase, cmpI, arI, Value.ite_bool]
          rw [w64 (by omega) (by omega)]
          rfl
        · intro j hj
          by_cases e : j = k
          · subst e; rw [hx]; intro h; cases h; exact he rfl
          · exact hk j (by omega)
    · simp only [ev0, ev, evV, List.cons_append, List.nil_append, List.getD_cons_zero, List.getD_cons_succ, List.map_cons, List.map_nil, iOf, bOf, sOf, pOf, slLen, slBase, cmpI, arI, Value.ite_bool, decide_eq_false_iff_not] at hge
      refine ⟨?_, hl⟩
      have hno : signsL.contains c = false := by
        cases hc : signsL.contains c with
        | false => rfl
        | true =>
          obtain ⟨j, hj, hjc⟩ := List.getElem_of_mem (by simpa using hc : c ∈ signsL)
          have h18 : signsL.length = 18 := rfl
          exact absurd (by rw [List.getElem?_eq_getElem hj, hjc]) (hk j (by omega))
      rw [hno]; rfl

theorem isName_gives (c : UInt8) (H : PH) : Gives Tryz.prog n_data_isName [.int .u8 c.toNat] H (.bool (nameB c)) := by
  refine tri_data_isName [.int .u8 c.toNat] (by kernel_rfl) (by kernel_rfl) ?_
  refine ⟨fun vs H' => vs = [.bool (nameB c)] ∧ PH.le H H', ?_, ?_⟩
  · rintro vs H' ht ⟨rfl, hl⟩
    exact ⟨rfl, hl⟩
  · refine den_gives [.bool (digitI c.toNat)] cb_data_isDigit (isDigit_gives _ _) rfl pendNil fun H1 h1 => ?_
    refine ⟨fun hc => ?_, fun hc => ?_⟩
    · simp only [ev0, ev, evV, List.cons_append, List.nil_append, List.getD_cons_zero, List.getD_cons_succ, List.map_cons, List.map_nil, iOf, bOf, sOf, pOf, slLen, slBase, cmpI, arI, Value.ite_bool] at hc
      exact ⟨_, lookup_hit, by rw [nameB_eq, if_pos hc]; rfl, h1⟩
    · simp only [ev0, ev, evV, List.cons_append, List.nil_append, List.getD_cons_zero, List.getD_cons_succ, List.map_cons, List.map_nil, iOf, bOf, sOf, pOf, slLen, slBase, cmpI, arI, Value.ite_bool] at hc
      refine den_gives [.int .i64 (Lib.indexByte signsL c)] cb_strings_IndexByte ?_ rfl pendNil fun H2 h2 => ?_
      · have := IndexByte_gives ⟨signsL.toArray⟩ (c.toNat : Int) H1
        have e : ((c.toNat : Int)).toNat.toUInt8 = c := by simp
        rw [e] at this
        exact this
      · refine ⟨_, lookup_hit, ?_, PH.le_trans h1 h2⟩
        rw [nameB_eq, if_neg (by rw [hc]; simp), Lib.contains_iff_indexByte]
        rfl

/-- a scan over a text -/
theorem den_scan {P : Program} {X : List PanicEntry → PH → Prop} {id f n s : Nat} {p : UInt8 → Bool} {l : List UInt8} {init : SV} {k0 : Nat} {rest : Fm VE} {E : List Value} {H : PH} {L : LK} {K : VE → List Value → PH → LK → Prop}
    (hn : E.length = n) (hs : E[s]? = some (txt l)) (hl : l.length ≤ maxLen) (hi : ev0 E init = .int .i64 k0) (hk0 : k0 ≤ l.length) (hok : callB P f = true) (hf : ∀ (c : UInt8) H', PH.le H H' → Gives P f [.int .u8 c.toNat] H' (.bool (p c)))
    (hK : ∀ E' H' L', PH.le H H' → (l.drop k0).all p = false → K (.sc (.bool false)) E' H' L') (hrest : ∀ H' L', PH.le H H' → (l.drop k0).all p = true → den P X rest (E ++ [.bool false, .int .i64 l.length]) H' L' K) :
    den P X (.loop id [.bool, .int .i64] [.bool false, init] (.ite (.cmp .lss (.atom (n + 1)) (.slen (.atom s))) (.chk [] (.inStr (.atom s) (.atom (n + 1))) (.call (.fn f) [.sc (.sidx (.atom s) (.atom (n + 1)))] (.sc .bool) []
      (.ite (.not (.atom (n + 2))) (.leaf (.sc (.bool false))) (.next id [.atom n, .ar .add .i64 (.atom (n + 1)) (.int .i64 1)])))) rest)) E H L K := by
  have hsn : s < n := by
    rcases Nat.lt_or_ge s n with h | h
    · exact h
    · rw [List.getElem?_eq_none (by omega)] at hs; cases hs
  refine ⟨fun m vs H' => ∃ k : Nat, vs = [.bool false, .int .i64 k] ∧ k0 ≤ k ∧ k + m = l.length ∧ ((l.take k).drop k0).all p = true ∧ PH.le H H', ⟨l.length - k0, k0, ?_, Nat.le_refl _, by omega, ?_, PH.le_refl H⟩, ?_⟩
  · simp only [List.map_cons, List.map_nil, hi]; rfl
  · rw [List.drop_eq_nil_of_le (by simp; omega)]; rfl
  rintro m vs H' ht ⟨k, rfl, hk, hkm, hall, hle⟩
  have a1 : (E ++ [Value.bool false, Value.int .i64 k]).getD (n + 1) (Value.bool false) = .int .i64 k := by subst hn; simp [List.getD_eq_getElem?_getD]
  have a0 : (E ++ [Value.bool false, Value.int .i64 k]).getD n (Value.bool false) = .bool false := by subst hn; simp [List.getD_eq_getElem?_getD]
  have a2 : (E ++ [Value.bool false, Value.int .i64 k]).getD s (Value.bool false) = txt l := by
    simp [List.getD_eq_getElem?_getD, List.getElem?_append_left (show s < E.length by omega), hs]
  simp only [maxLen] at hl
  refine ⟨fun hlt => ?_, fun hge => ?_⟩
  · simp only [ev0, ev, a1, a2, iOf, bOf, sOf, cmpI, txt_size, decide_eq_true_eq] at hlt
    have hkl : k < l.length := by omega
    obtain ⟨c, hc⟩ : ∃ c, l[k]? = some c := ⟨_, List.getElem?_eq_getElem hkl⟩
    refine ⟨fun _ => ?_, ?_⟩
    · simp only [Chk.holds, ev0, ev, a1, a2, iOf, sOf, txt_size]; omega
    · refine den_gives [.bool (p c)] hok ?_ rfl pendNil fun H2 h2 => ?_
      · simp only [List.map_cons, List.map_nil, evV, ev, a1, a2, iOf, sOf, get_txt hc]
        exact hf c H' hle
      have b0 : (E ++ [Value.bool false, Value.int .i64 k] ++ [Value.bool (p c)]).getD n (Value.bool false) = .bool false := by subst hn; simp [List.getD_eq_getElem?_getD]
      have b1 : (E ++ [Value.bool false, Value.int .i64 k] ++ [Value.bool (p c)]).getD (n + 1) (Value.bool false) = .int .i64 k := by subst hn; simp [List.getD_eq_getElem?_getD]
      have b2 : (E ++ [Value.bool false, Value.int .i64 k] ++ [Value.bool (p c)]).getD (n + 2) (Value.bool false) = .bool (p c) := by subst hn; simp [List.getD_eq_getElem?_getD]
      have hcd : c ∈ l.drop k0 := by
        refine List.mem_of_getElem? (i := k - k0) ?_
        rw [List.getElem?_drop, show k0 + (k - k0) = k by omega]; exact hc
      refine ⟨fun hb => ?_, fun hb => ?_⟩
      · simp only [ev0, ev, b2, bOf, Bool.not_eq_true'] at hb
        refine hK _ H2 _ (PH.le_trans hle h2) ?_
        rw [List.all_eq_false]
        exact ⟨c, hcd, by simp [hb]⟩
      · simp only [ev0, ev, b2, bOf, Bool.not_eq_false'] at hb
        refine ⟨_, lookup_hit, m - 1, by omega, k + 1, ?_, by omega, by omega, ?_, PH.le_trans hle h2⟩
        · simp only [List.map_cons, List.map_nil, ev0, ev, b0, b1, iOf, arI]
          rw [w64 (by omega) (by omega)]
          rfl
        · rw [List.take_add_one, hc, List.drop_append_of_le_length (by simp; omega), List.all_append, hall]
          simp [hb]
  · simp only [ev0, ev, a1, a2, iOf, bOf, sOf, cmpI, txt_size, decide_eq_false_iff_not] at hge
    have hkl : k = l.length := by omega
    subst hkl
    refine hrest H' _ hle ?_
    rw [List.take_length] at hall; exact hall

def numB (l : List UInt8) : Bool := match l with
  | [] => false
  | c :: r => if c == 43 || c == 45 then !r.isEmpty && r.all (fun c => digitI c.toNat) else (c :: r).all fun c => digitI c.toNat
def nameOk (l : List UInt8) : Bool := l.all nameB && !l.isEmpty && decide (l.length ≤ 64) && decide (l ≠ [46]) && !numB l

theorem txt_neq (a b : List UInt8) : cmpS .neq ⟨a.toArray⟩ ⟨b.toArray⟩ = decide (a ≠ b) := by
  simp only [cmpS, txt_eq]; by_cases h : a = b <;> simp [h]
theorem txt_eql (a b : List UInt8) : cmpS .eql ⟨a.toArray⟩ ⟨b.toArray⟩ = decide (a = b) := by
  simp only [cmpS, txt_eq]
def signB (l : List UInt8) : Bool := match l with
  | [] => false
  | c :: _ => c == 43 || c == 45
theorem numB_eq (l : List UInt8) : numB l = (decide ((if signB l then 1 else 0) < l.length) && (l.drop (if signB l then 1 else 0)).all fun c => digitI c.toNat) := by
  cases l with
  | nil => rfl
  | cons c r =>
    simp only [numB, signB]
    by_cases h : (c == 43 || c == 45) = true
    · simp only [h, if_true]; cases r <;> simp
    · simp only [h]; simp

theorem Number_gives (l : List UInt8) (hl : l.length ≤ maxLen) (H : PH) : Gives Tryz.prog n_scrimshawref02_Number [txt l] H (.bool (numB l)) := by
  refine tri_scrimshawref02_Number [txt l] (by kernel_rfl) (by kernel_rfl) ?_
  have hm := hl
  simp only [maxLen] at hm
  have hsign : ∀ (E : List Value), E.getD 0 (Value.bool false) = txt l → ev0 E (.pick (.pick (.cmp .gtr (.slen (.atom 0)) (.int .i64 0)) (.pick (.cmp .eql (.sidx (.atom 0) (.int .i64 0)) (.int .u8 43)) (.bool true) (.cmp .eql (.sidx (.atom 0) (.int .i64 0)) (.int .u8 45))) (.bool false)) (.int .i64 1) (.int .i64 0)) = .int .i64 ((if signB l then 1 else 0 : Nat) : Int) := by
    intro E hE
    cases l with
    | nil => simp only [ev0, ev, evV, List.cons_append, List.nil_append, List.getD_cons_zero, List.getD_cons_succ, List.map_cons, List.map_nil, iOf, bOf, sOf, pOf, slLen, slBase, cmpI, arI, Value.ite_bool, hE, txt_size]; simp [signB]
    | cons c r =>
      have hg : ((⟨(c :: r).toArray⟩ : ByteArray)[(0 : Int).toNat]?).getD 0 = c := get_txt (k := 0) rfl
      have e1 : ((c.toNat : Int) == 43) = (c == 43) := u8_beq c 43
      have e2 : ((c.toNat : Int) == 45) = (c == 45) := u8_beq c 45
      simp only [ev0, ev, evV, List.cons_append, List.nil_append, List.getD_cons_zero, List.getD_cons_succ, List.map_cons, List.map_nil, iOf, bOf, sOf, pOf, slLen, slBase, cmpI, arI, Value.ite_bool, hE, txt_size, hg, e1, e2, signB]
      by_cases h1 : c = 43
      · subst h1; simp
      · by_cases h2 : c = 45
        · subst h2; simp
        · simp [h1, h2]
  refine ⟨fun _ => ?_, fun _ => ?_, ?_⟩
  · rename_i hh
    have := hh (.cmp .gtr (.slen (.atom 0)) (.int .i64 0), true) (by simp)
    simp only [ev0, ev, evV, List.cons_append, List.nil_append, List.getD_cons_zero, List.getD_cons_succ, List.map_cons, List.map_nil, iOf, bOf, sOf, pOf, slLen, slBase, cmpI, arI, Value.ite_bool, txt_size, decide_eq_true_eq] at this
    simp only [Chk.holds, ev0, ev, evV, List.cons_append, List.nil_append, List.getD_cons_zero, List.getD_cons_succ, List.map_cons, List.map_nil, iOf, bOf, sOf, pOf, slLen, slBase, cmpI, arI, Value.ite_bool, txt_size]; omega
  · rename_i hh
    have := hh (.cmp .gtr (.slen (.atom 0)) (.int .i64 0), true) (by simp)
    simp only [ev0, ev, evV, List.cons_append, List.nil_append, List.getD_cons_zero, List.getD_cons_succ, List.map_cons, List.map_nil, iOf, bOf, sOf, pOf, slLen, slBase, cmpI, arI, Value.ite_bool, txt_size, decide_eq_true_eq] at this
    simp only [Chk.holds, ev0, ev, evV, List.cons_append, List.nil_append, List.getD_cons_zero, List.getD_cons_succ, List.map_cons, List.map_nil, iOf, bOf, sOf, pOf, slLen, slBase, cmpI, arI, Value.ite_bool, txt_size]; omega
  · refine den_scan (n := 1) (s := 0) (p := fun c => digitI c.toNat) (k0 := if signB l then 1 else 0) rfl rfl hl (hsign _ rfl) ?_ cb_scrimshawref02_Digit (fun c H' _ => Digit_gives _ _) ?_ ?_
    · cases l with
      | nil => simp [signB]
      | cons c r => simp; split <;> omega
    · intro E' H' L' h1 h2
      refine ⟨?_, h1⟩
      rw [numB_eq, h2]; simp [evV, ev]
    · intro H' L' h1 h2
      refine ⟨?_, h1⟩
      have hs := hsign ([txt l] ++ [Value.bool false, Value.int .i64 l.length]) rfl
      rw [numB_eq, h2]
      simp only [evV, ev0] at hs ⊢
      rw [ev, hs]
      simp only [ev, iOf, sOf, cmpI, List.cons_append, List.nil_append, List.getD_cons_zero, txt_size, Bool.and_true]
      congr 2
      simp

theorem extract_txt (l : List UInt8) (a b : Nat) : (⟨l.toArray⟩ : ByteArray).extract a b = ⟨((l.take b).drop a).toArray⟩ := by
  apply ByteArray.ext
  rw [ByteArray.data_extract]
  apply Array.ext'
  simp [List.drop_take]
theorem drop_ne (l : List UInt8) (k : Nat) : decide (l.drop k ≠ []) = decide (k < l.length) := by simp [List.drop_eq_nil_iff]
theorem isNumber_gives (l : List UInt8) (hl : l.length ≤ maxLen) (H : PH) : Gives Tryz.prog n_data_isNumber [txt l] H (.bool (numB l)) := by
  refine tri_data_isNumber [txt l] (by kernel_rfl) (by kernel_rfl) ?_
  have hm := hl
  simp only [maxLen] at hm
  refine ⟨fun vs H' => vs = [txt (l.drop (if signB l then 1 else 0))] ∧ PH.le H H', ?_, ?_⟩
  · rintro vs H' ht ⟨rfl, hle⟩
    refine den_scan (n := 2) (s := 1) (p := fun c => digitI c.toNat) (k0 := 0) (l := l.drop (if signB l then 1 else 0)) rfl rfl (by simp; omega) rfl (by omega) cb_data_isDigit (fun c H' _ => isDigit_gives _ _) ?_ ?_
    · intro E' H' L' h1 h2
      rw [List.drop_zero] at h2
      refine ⟨?_, PH.le_trans hle h1⟩
      rw [numB_eq, h2]; simp [evV, ev]
    · intro H' L' h1 h2
      rw [List.drop_zero] at h2
      refine ⟨?_, PH.le_trans hle h1⟩
      rw [numB_eq, h2]
      simp only [ev0, ev, evV, List.cons_append, List.nil_append, List.getD_cons_zero, List.getD_cons_succ, List.map_cons, List.map_nil, iOf, bOf, sOf, pOf, slLen, slBase, cmpI, arI, Value.ite_bool, txt_neq, Bool.and_true, drop_ne]
  · have hp : ∀ c r, l = c :: r → ((⟨l.toArray⟩ : ByteArray)[(0 : Int).toNat]?).getD 0 = c := fun c r h => by subst h; exact get_txt (k := 0) rfl
    have hne : l ≠ [] → 0 < l.length := fun h => by cases l with | nil => exact absurd rfl h | cons c r => simp
    refine ⟨fun hh => ?_, fun hh => ?_, fun hh => ?_, fun hh => ?_⟩
    · have := hh (.scmp .neq (.atom 0) (.str []), true) (by simp)
      simp only [ev0, ev, evV, List.cons_append, List.nil_append, List.getD_cons_zero, List.getD_cons_succ, List.map_cons, List.map_nil, iOf, bOf, sOf, pOf, slLen, slBase, cmpI, arI, Value.ite_bool, txt_neq, decide_eq_true_eq] at this
      have := hne this
      simp only [Chk.holds, ev0, ev, evV, List.cons_append, List.nil_append, List.getD_cons_zero, List.getD_cons_succ, List.map_cons, List.map_nil, iOf, bOf, sOf, pOf, slLen, slBase, cmpI, arI, Value.ite_bool, txt_size]; omega
    · have := hh (.scmp .neq (.atom 0) (.str []), true) (by simp)
      simp only [ev0, ev, evV, List.cons_append, List.nil_append, List.getD_cons_zero, List.getD_cons_succ, List.map_cons, List.map_nil, iOf, bOf, sOf, pOf, slLen, slBase, cmpI, arI, Value.ite_bool, txt_neq, decide_eq_true_eq] at this
      have := hne this
      simp only [Chk.holds, ev0, ev, evV, List.cons_append, List.nil_append, List.getD_cons_zero, List.getD_cons_succ, List.map_cons, List.map_nil, iOf, bOf, sOf, pOf, slLen, slBase, cmpI, arI, Value.ite_bool, txt_size]; omega
    · simp only [ev0, ev, evV, List.cons_append, List.nil_append, List.getD_cons_zero, List.getD_cons_succ, List.map_cons, List.map_nil, iOf, bOf, sOf, pOf, slLen, slBase, cmpI, arI, Value.ite_bool, txt_neq] at hh
      have hsg : signB l = true := by
        cases l with
        | nil => simp at hh
        | cons c r =>
          have e1 : ((c.toNat : Int) == 43) = (c == 43) := u8_beq c 43
          have e2 : ((c.toNat : Int) == 45) = (c == 45) := u8_beq c 45
          simp only [hp c r rfl, e1, e2] at hh
          simp only [signB]
          by_cases h1 : c = 43
          · simp [h1]
          · simp [h1] at hh ⊢; exact hh
      have h1l : 1 ≤ l.length := by
        cases l with
        | nil => simp [signB] at hsg
        | cons c r => simp
      refine ⟨fun _ => ?_, ?_⟩
      · simp only [Chk.holds, ev0, ev, evV, List.cons_append, List.nil_append, List.getD_cons_zero, List.getD_cons_succ, List.map_cons, List.map_nil, iOf, bOf, sOf, pOf, slLen, slBase, cmpI, arI, Value.ite_bool, txt_size]; omega
      · refine ⟨_, lookup_hit, ?_, PH.le_refl H⟩
        simp only [ev0, ev, evV, List.cons_append, List.nil_append, List.getD_cons_zero, List.getD_cons_succ, List.map_cons, List.map_nil, iOf, bOf, sOf, pOf, slLen, slBase, cmpI, arI, Value.ite_bool, txt_size, hsg, if_true, extract_txt]
        simp
    · simp only [ev0, ev, evV, List.cons_append, List.nil_append, List.getD_cons_zero, List.getD_cons_succ, List.map_cons, List.map_nil, iOf, bOf, sOf, pOf, slLen, slBase, cmpI, arI, Value.ite_bool, txt_neq] at hh
      have hsg : signB l = false := by
        cases l with
        | nil => rfl
        | cons c r =>
          have e1 : ((c.toNat : Int) == 43) = (c == 43) := u8_beq c 43
          have e2 : ((c.toNat : Int) == 45) = (c == 45) := u8_beq c 45
          simp only [hp c r rfl, e1, e2] at hh
          simp only [signB]
          by_cases h1 : c = 43
          · simp [h1] at hh
          · simp [h1] at hh ⊢; exact hh
      exact ⟨_, lookup_hit, by simp only [ev0, ev, evV, List.cons_append, List.nil_append, List.getD_cons_zero, List.getD_cons_succ, List.map_cons, List.map_nil, iOf, bOf, sOf, pOf, slLen, slBase, cmpI, arI, Value.ite_bool, hsg]; simp, PH.le_refl H⟩

theorem Name_gives (l : List UInt8) (hl : l.length ≤ maxLen) (H : PH) : Gives Tryz.prog n_data_Name [txt l] H (.bool (nameOk l)) := by
  refine tri_data_Name [txt l] (by kernel_rfl) (by kernel_rfl) ?_
  refine den_scan (n := 1) (s := 0) (p := nameB) (k0 := 0) rfl rfl hl rfl (by omega) cb_data_isName (fun c H' _ => isName_gives c H') ?_ ?_
  · intro E' H' L' h1 h2
    rw [List.drop_zero] at h2
    refine ⟨?_, h1⟩
    simp [nameOk, h2, evV, ev]
  · intro H' L' h1 h2
    rw [List.drop_zero] at h2
    refine ⟨fun vs H' => vs = [.bool (nameOk l)] ∧ PH.le H H', ?_, ?_⟩
    · rintro vs H' ht ⟨rfl, hl⟩; exact ⟨rfl, hl⟩
    · refine ⟨fun hh => ?_, fun hh => ?_⟩
      · simp only [ev0, ev, evV, List.cons_append, List.nil_append, List.getD_cons_zero, List.getD_cons_succ, List.map_cons, List.map_nil, iOf, bOf, sOf, pOf, slLen, slBase, cmpI, arI, Value.ite_bool, txt_neq, txt_size] at hh
        refine den_gives [.bool (numB l)] cb_data_isNumber (isNumber_gives l hl H') rfl pendNil fun H2 h3 => ?_
        refine ⟨_, lookup_hit, ?_, PH.le_trans h1 h3⟩
        simp only [ev0, ev, evV, List.cons_append, List.nil_append, List.getD_cons_zero, List.getD_cons_succ, List.map_cons, List.map_nil, iOf, bOf, sOf, pOf, slLen, slBase, cmpI, arI, Value.ite_bool, nameOk, h2]
        cases l with
        | nil => simp at hh
        | cons c r =>
          by_cases h64 : (c :: r).length ≤ 64
          · by_cases hd : c :: r = [46]
            · simp [hd] at hh
            · simp at h64; simp [hd, h64]
          · simp at h64; simp at hh; omega
      · simp only [ev0, ev, evV, List.cons_append, List.nil_append, List.getD_cons_zero, List.getD_cons_succ, List.map_cons, List.map_nil, iOf, bOf, sOf, pOf, slLen, slBase, cmpI, arI, Value.ite_bool, txt_neq, txt_size] at hh
        refine ⟨_, lookup_hit, ?_, h1⟩
        simp only [ev0, ev, evV, List.cons_append, List.nil_append, List.getD_cons_zero, List.getD_cons_succ, List.map_cons, List.map_nil, iOf, bOf, sOf, pOf, slLen, slBase, cmpI, arI, Value.ite_bool, nameOk, h2]
        cases l with
        | nil => simp
        | cons c r =>
          by_cases h64 : (c :: r).length ≤ 64
          · by_cases hd : c :: r = [46]
            · simp [hd]
            · simp at h64; simp [hd] at hh; omega
          · simp at h64; simp; omega

theorem RName_gives (l : List UInt8) (hl : l.length ≤ maxLen) (H : PH) : Gives Tryz.prog n_scrimshawref02_Name [txt l] H (.bool (nameOk l)) := by
  refine tri_scrimshawref02_Name [txt l] (by kernel_rfl) (by kernel_rfl) ?_
  refine ⟨fun vs H' => vs = [.bool (decide (l.length < 1) || decide (64 < l.length) || decide (l = [46]) || numB l)] ∧ PH.le H H', ?_, ?_⟩
  · rintro vs H' ht ⟨rfl, hle⟩
    refine ⟨fun hh => ?_, fun hh => ?_⟩
    · simp only [ev0, ev, evV, List.cons_append, List.nil_append, List.getD_cons_zero, List.getD_cons_succ, List.map_cons, List.map_nil, iOf, bOf, sOf, pOf, slLen, slBase, cmpI, arI, Value.ite_bool] at hh
      refine ⟨?_, hle⟩
      simp only [evV, ev, nameOk]
      congr 2
      cases l with
      | nil => simp
      | cons c r =>
        simp at hh ⊢
        rcases hh with (hh | hh) | hh
        · intros; omega
        · intros; simp_all
        · intros; simp_all
    · simp only [ev0, ev, evV, List.cons_append, List.nil_append, List.getD_cons_zero, List.getD_cons_succ, List.map_cons, List.map_nil, iOf, bOf, sOf, pOf, slLen, slBase, cmpI, arI, Value.ite_bool] at hh
      simp only [Bool.or_eq_false_iff, decide_eq_false_iff_not] at hh
      obtain ⟨⟨⟨h1, h2⟩, h3⟩, h4⟩ := hh
      refine den_scan (n := 2) (s := 0) (p := nameB) (k0 := 0) rfl rfl hl rfl (by omega) cb_scrimshawref02_Byte (fun c H' _ => Byte_gives c H') ?_ ?_
      · intro E' H' L' g1 g2
        rw [List.drop_zero] at g2
        refine ⟨?_, PH.le_trans hle g1⟩
        simp [nameOk, g2, evV, ev]
      · intro H' L' g1 g2
        rw [List.drop_zero] at g2
        refine ⟨?_, PH.le_trans hle g1⟩
        simp only [evV, ev, nameOk, g2]
        have : l ≠ [] := by rintro rfl; simp at h1
        cases l with
        | nil => simp at h1
        | cons c r => simp at h2 h3 ⊢; simp [h4]; exact ⟨by omega, Decidable.not_or_of_imp h3⟩
  · refine ⟨fun hh => ?_, fun hh => ?_⟩
    · simp only [ev0, ev, evV, List.cons_append, List.nil_append, List.getD_cons_zero, List.getD_cons_succ, List.map_cons, List.map_nil, iOf, bOf, sOf, pOf, slLen, slBase, cmpI, arI, Value.ite_bool, txt_eql, txt_size] at hh
      refine ⟨_, lookup_hit, ?_, PH.le_refl H⟩
      simp only [ev0, ev, evV, List.cons_append, List.nil_append, List.getD_cons_zero, List.getD_cons_succ, List.map_cons, List.map_nil, iOf, bOf, sOf, pOf, slLen, slBase, cmpI, arI, Value.ite_bool]
      congr 2
      symm
      by_cases h1 : l.length < 1
      · simp [h1]
      · by_cases h2 : 64 < l.length
        · simp [h2]
        · by_cases h3 : l = [46]
          · simp [h3]
          · simp [h3] at hh; omega
    · simp only [ev0, ev, evV, List.cons_append, List.nil_append, List.getD_cons_zero, List.getD_cons_succ, List.map_cons, List.map_nil, iOf, bOf, sOf, pOf, slLen, slBase, cmpI, arI, Value.ite_bool, txt_eql, txt_size] at hh
      refine den_gives [.bool (numB l)] cb_scrimshawref02_Number (Number_gives l hl H) rfl pendNil fun H2 h3 => ?_
      refine ⟨_, lookup_hit, ?_, h3⟩
      simp only [ev0, ev, evV, List.cons_append, List.nil_append, List.getD_cons_zero, List.getD_cons_succ, List.map_cons, List.map_nil, iOf, bOf, sOf, pOf, slLen, slBase, cmpI, arI, Value.ite_bool]
      congr 2
      by_cases h1 : l.length < 1
      · simp at hh; omega
      · by_cases h2 : 64 < l.length
        · simp at hh; omega
        · by_cases h3 : l = [46]
          · simp [h3] at hh
          · simp [h1, h2, h3]
end Go.Proofs.YtlnmmakbgldflaaGreatDoor.Vc

