/-
  What the functions come to, in plain words.
-/
import Derived.Test.YtjlabbgoonebhaaGenTries
import Derived.Test.YtjlabbgoonebhaaPlain1
namespace Go.Ab
open Go.Proofs
noncomputable section
theorem p_spec_l1Pow2_l (x : Int) (hx : x ≤ 62) : ∀ (m : Nat) (k : Int), 0 ≤ k → k ≤ x → x - k < m → P_spec_l1Pow2_0_3 x m (2 ^ k.toNat) k = some (2 ^ x.toNat) := by
  intro m
  induction m with
  | zero => intro k _ _ h; omega
  | succ m ih =>
    intro k h0 hk hm
    rw [P_spec_l1Pow2_0_3]
    by_cases h : k < x
    · have e : (2 : Int) ^ k.toNat * 2 = 2 ^ (k + 1).toNat := by
        rw [show (k + 1).toNat = k.toNat + 1 by omega, Int.pow_succ]
      have hb : (2 : Int) ^ (k + 1).toNat ≤ 2 ^ 62 := by
        have := Nat.pow_le_pow_right (n := 2) (by omega) (show (k + 1).toNat ≤ 62 by omega)
        exact_mod_cast this
      have hp : (0 : Int) < 2 ^ (k + 1).toNat := Int.pow_pos (by omega)
      rw [decide_eq_true h, e, wrapU (by omega), wrapU (by omega)]
      exact ih _ (by omega) (by omega) (by omega)
    · have : k = x := by omega
      subst this
      rw [decide_eq_false h]; rfl
theorem p_spec_l1Pow2 {x : Int} (h0 : 0 ≤ x) (hx : x ≤ 62) : E_spec_l1Pow2 x = some (pow2 x) := by
  refine evOpt_of ⟨x.toNat + 1, fun m hm => ?_⟩
  have := p_spec_l1Pow2_l x hx m 0 (by omega) h0 (by omega)
  exact this
theorem p_heldIntS_l : ∀ (xs : List Int) (k : Int), 0 ≤ k → k + xs.length ≤ markTop → P_laws_heldIntS_0_2 (foldM (markE I64) xs k).2 k = some (foldM (markE I64) xs k).1
  | [], k, _, _ => rfl
  | x :: xs, k, h0, h1 => by
    simp only [List.length_cons] at h1
    have e : markE I64 x k = (k + 1, k) := by show (k + 1, IntKind.wrap .i64 k) = _; rw [wrap_i64 h0 (by omega)]
    rw [foldM_cons, e]
    rw [P_laws_heldIntS_0_2, wrap_i64 (k := k + 1) (by omega) (by omega)]
    simp only [decide_true, Bool.not_true, cond_false]
    exact p_heldIntS_l xs (k + 1) (by omega) (by omega)
theorem foldM_len {α : Type} (f : α → Int → Int × α) : ∀ (xs : List α) (k : Int), (foldM f xs k).2.length = xs.length
  | [], _ => rfl
  | x :: xs, k => by rw [foldM_cons]; simp [foldM_len f xs]
theorem p_heldIntS (xs : List Int) (k : Int) (h0 : 0 ≤ k) (h1 : k + xs.length ≤ markTop) : P_laws_heldIntS (markS (.list I64) xs k).2 k = some (markS (.list I64) xs k).1 := by
  rw [P_laws_heldIntS]
  have hl : ((markS (.list I64) xs k).2).length ≤ maxLen := by
    have : ((markS (.list I64) xs k).2).length = xs.length := foldM_len (markE I64) xs k
    rw [this]; unfold markTop at h1; unfold maxLen; omega
  rw [lenOk_pos hl]
  exact p_heldIntS_l xs k h0 h1
def low (a b : Int) : Int := bif decide (b < a) then b else a
theorem low_cases (a b : Int) : (low a b = a ∧ a ≤ b) ∨ (low a b = b ∧ b < a) := by
  unfold low
  rcases Int.lt_or_le b a with h | h
  · rw [decide_eq_true h]; exact .inr ⟨rfl, h⟩
  · rw [decide_eq_false (by omega)]; exact .inl ⟨rfl, h⟩
theorem lesser_low (a b : Int) : T_spec_l15Lesser a b = low a b := by
  unfold T_spec_l15Lesser low
  rcases Int.lt_or_le b a with h | h
  · rw [decide_eq_true h, decide_eq_false (by omega)]; rfl
  · rw [decide_eq_false (p := b < a) (by omega)]
    rcases Int.lt_or_le a b with h2 | h2
    · rw [decide_eq_true h2]; rfl
    · have : a = b := by omega
      subst this; simp
theorem ten_wrap {e : Nat} (he : e ≤ 20) : IntKind.i64.wrap (10 * 2 ^ e) = 10 * 2 ^ e ∧ (10 * 2 ^ e : Int) ≤ 10485760 ∧ (0 : Int) < 10 * 2 ^ e := by
  have h1 : (2 : Int) ^ e ≤ 2 ^ 20 := by
    have := Nat.pow_le_pow_right (n := 2) (by omega) he
    exact_mod_cast this
  have h2 : (0 : Int) < 2 ^ e := Int.pow_pos (by omega)
  have h3 : (2 : Int) ^ 20 = 1048576 := by decide
  exact ⟨wrap64 (by omega), by omega, by omega⟩
theorem impl_form (t : Int) (b : Bool) (th : DThrottle) : P_impl_TryOnce_1_3 t b th = bif decide (t < th.2.1) then some (th, 2) else bif b then some ((0, 0, t), 0) else
    bif decide ((3 : Int) ≤ low (IntKind.wrap .i64 (th.1 + 1)) 1000000) then bif decide ((0 : Int) ≤ low (IntKind.wrap .i64 (low (IntKind.wrap .i64 (th.1 + 1)) 1000000 - 3)) 20) then
      some ((low (IntKind.wrap .i64 (th.1 + 1)) 1000000, IntKind.wrap .i64 (t + low 3600 (IntKind.wrap .i64 (10 * 2 ^ (min (Int.toNat (low (IntKind.wrap .i64 (low (IntKind.wrap .i64 (th.1 + 1)) 1000000 - 3)) 20)) 64)))), t), 1) else none
    else some ((low (IntKind.wrap .i64 (th.1 + 1)) 1000000, 0, t), 1) := by
  rw [P_impl_TryOnce_1_3]; rfl
theorem same_TryOnce_1_3 (t : Int) (b : Bool) (th : DThrottle) (h0 : 0 ≤ th.1) (h1 : th.1 ≤ 1000000) (h2 : 0 ≤ t) (h3 : t ≤ 100000000000) : ∃ y, P_spec_TryOnce_1_3 t b th = some y ∧ P_impl_TryOnce_1_3 t b th = some y ∧ inK .i64 y.2 = true := by
  rw [P_spec_TryOnce_1_3, impl_form]
  cases decide (t < th.2.1) with
  | true => exact ⟨_, rfl, rfl, (by decide : inK .i64 2 = true)⟩
  | false =>
  cases b with
  | true => exact ⟨_, rfl, rfl, (by decide : inK .i64 0 = true)⟩
  | false =>
  simp only [cond_false, lesser_low, wrap64 (x := th.1 + 1) (by omega)]
  have hf : 1 ≤ low (th.1 + 1) 1000000 ∧ low (th.1 + 1) 1000000 ≤ 1000000 := by
    rcases low_cases (th.1 + 1) 1000000 with ⟨e, k⟩ | ⟨e, k⟩ <;> rw [e] <;> omega
  generalize low (th.1 + 1) 1000000 = f at *
  cases hd : decide ((3 : Int) ≤ f) with
  | false => exact ⟨_, rfl, rfl, (by decide : inK .i64 1 = true)⟩
  | true =>
  have hd := of_decide_eq_true hd
  simp only [cond_true, wrap64 (x := f - 3) (by omega)]
  have hq : 0 ≤ low (f - 3) 20 ∧ low (f - 3) 20 ≤ 20 := by
    rcases low_cases (f - 3) 20 with ⟨e, k⟩ | ⟨e, k⟩ <;> rw [e] <;> omega
  generalize low (f - 3) 20 = q at *
  rw [p_spec_l1Pow2 hq.1 (by omega), decide_eq_true hq.1]
  simp only [Option.bind_some, cond_true]
  rw [show min q.toNat 64 = q.toNat by omega]
  exact ⟨_, rfl, rfl, (by decide : inK .i64 1 = true)⟩
theorem same_TryOnce (th : DThrottle) (t : Int) (b : Bool) : ∃ y, P_spec_TryOnce th t b = some y ∧ P_impl_TryOnce th t b = some y ∧ inK .i64 y.2 = true := by
  rw [P_spec_TryOnce, P_impl_TryOnce]
  have no : ∃ y : DThrottle × Int, some ((0, 0, 0), -1) = some y ∧ some ((0, 0, 0), -1) = some y ∧ inK .i64 y.2 = true := ⟨((0, 0, 0), -1), rfl, rfl, by decide⟩
  cases d1 : decide (th.1 < 0) with
  | true => exact no
  | false =>
  cases d2 : decide ((1000000 : Int) < th.1) with
  | true => exact no
  | false =>
  cases d3 : decide (th.2.1 < 0) with
  | true => exact no
  | false =>
  cases d4 : decide ((100000003600 : Int) < th.2.1) with
  | true => exact no
  | false =>
  cases d5 : decide (th.2.2 < 0) with
  | true => exact no
  | false =>
  cases d6 : decide ((100000003600 : Int) < th.2.2) with
  | true => exact no
  | false =>
  cases d7 : decide (t < th.2.2) with
  | true => exact no
  | false =>
  cases d8 : decide ((100000000000 : Int) < t) with
  | true => exact no
  | false =>
  simp only [cond_false]
  have d1 := of_decide_eq_false d1
  have d2 := of_decide_eq_false d2
  have d5 := of_decide_eq_false d5
  have d7 := of_decide_eq_false d7
  have d8 := of_decide_eq_false d8
  exact same_TryOnce_1_3 t b th (by omega) (by omega) (by omega) (by omega)
theorem same_RunTries_l : ∀ (l : List DTry) (x : List Int) (th : DThrottle), x.length + l.length ≤ 1000 → (∀ y ∈ x, inK .i64 y = true) → ∃ r, P_spec_RunTries_0_6 l x th = some r ∧ P_impl_RunTries_0_6 l x th = some r ∧ r.length ≤ 1000 ∧ ∀ y ∈ r, inK .i64 y = true
  | [], x, th, h, hx => ⟨x, rfl, rfl, by simpa using h, hx⟩
  | e :: l, x, th, h, hx => by
    obtain ⟨y, e1, e2, e3⟩ := same_TryOnce th e.1 e.2
    simp only [List.length_cons] at h
    rw [P_spec_RunTries_0_6, P_impl_RunTries_0_6, e1, e2]
    simp only [Option.bind_some]
    have c1 : decide (((x.length : Int) + (([y.2] : List Int).length : Int)) * 8 ≤ room) = true := decide_eq_true (by rw [room_eq]; simp only [List.length_singleton]; omega)
    have c2 : decide ((x.length : Int) + (([y.2] : List Int).length : Int) ≤ room) = true := decide_eq_true (by rw [room_eq]; simp only [List.length_singleton]; omega)
    rw [c1, c2]
    have hx' : ∀ z ∈ x ++ [y.2], inK .i64 z = true := by
      intro z hz
      rcases List.mem_append.1 hz with hz | hz
      · exact hx z hz
      · rw [List.mem_singleton.1 hz]; exact e3
    cases decide ((0 : Int) ≤ y.2) with
    | true => exact same_RunTries_l l _ _ (by simp; omega) hx'
    | false => exact same_RunTries_l l _ _ (by simp; omega) hx'
theorem same_RunTries (l : List DTry) : ∃ r, P_spec_RunTries l = some r ∧ P_impl_RunTries l = some r ∧ r.length ≤ 1000 ∧ ∀ y ∈ r, inK .i64 y = true := by
  rw [P_spec_RunTries, P_impl_RunTries]
  cases hd : decide ((1000 : Int) < (l.length : Int)) with
  | true => exact ⟨[], rfl, rfl, by simp, by simp⟩
  | false =>
    have hd := of_decide_eq_false hd
    have hl : l.length ≤ maxLen := by unfold maxLen; omega
    simp only [cond_false]
    rw [lenOk_pos hl, lenOk_pos hl]
    exact same_RunTries_l l [] _ (by simp; omega) (by simp)
theorem law_RunTries (a0 : List DTry) (h0 : wfD (.list TyTry) a0) : P_laws_FnExactRunTries a0 = some true := by
  rw [P_laws_FnExactRunTries, szC_some h0 (by omega) (by omega)]
  simp only [Option.bind_some]
  cases d1 : decide (lessZ 1048576 (Ty.size (.list TyTry) a0) < 0) with
  | true => rfl
  | false =>
  obtain ⟨b1, b2, b3⟩ := bud_of d1
  obtain ⟨r, s1, s2, s3, s4⟩ := same_RunTries a0
  have hr : wfD (.list I64) r := ⟨Nat.le_trans s3 (by decide), s4⟩
  have m1 := slotS_size (t := .list TyTry) (x := a0) (n := 1048576) (by omega) (by decide)
  have m2 : slotS (.list I64) r = r.length := slotS_one (t := I64) (fun _ => rfl) r
  have hk1 : ¬ (markS (.list TyTry) a0 1).1 < 0 := by rw [markS_fst]; omega
  have hk2 : ¬ (markS (.list I64) r 1).1 < 0 := by rw [markS_fst]; omega
  have hh := p_heldIntS r 1 (by omega) (by unfold markTop; omega)
  simp only [cond_false, toC_some h0 (by omega), Option.bind_some, s1, s2, eqC_some h0, eqC_some hr, Bool.not_true,
    markC_some (t := .list TyTry) (x := a0) (k := 1) (by omega) (by unfold markTop; omega), decide_eq_false hk1]
  rw [P_laws_FnExactRunTries_1_16]
  simp only [markC_some (t := .list I64) (x := r) (k := 1) (by omega) (by unfold markTop; omega), Option.bind_some, hh, decide_eq_false hk2, cond_false, decide_true, Bool.not_true, toC_some h0 (by omega), s2, eqC_some hr]

end
end Go.Ab
