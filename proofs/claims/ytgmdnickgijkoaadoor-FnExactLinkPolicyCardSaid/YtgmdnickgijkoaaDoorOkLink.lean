/-
  What the functions come to, in plain words.
-/
import Derived.Test.YtgmdnickgijkoaaDoorGenLink
import Derived.Test.YtgmdnickgijkoaaDoorPlain1
import Derived.Test.YtgmdnickgijkoaaDoorAb24
namespace Go.Ab
open Go.Proofs
noncomputable section
theorem p_spec_l1Printed_l (s : List Int) : P_spec_l1Printed_0_2 s = some (printed s) := by
  induction s with
  | nil => rfl
  | cons e r ih =>
    simp only [P_spec_l1Printed_0_2, ih, printed, List.all_cons, isPrint]
    grind
theorem p_spec_l1Printed {s : List Int} (h : s.length ≤ maxLen) : P_spec_l1Printed s = some (printed s) := by
  rw [P_spec_l1Printed, lenOk_pos h, p_spec_l1Printed_l]
theorem p_impl_yprinted_l (s : List Int) : P_impl_yprinted_0_4 s = some (printed s) := by
  induction s with
  | nil => rfl
  | cons e r ih =>
    simp only [P_impl_yprinted_0_4, ih, printed, List.all_cons, isPrint]
    grind
theorem p_impl_yprinted {s : List Int} (lo hi : Int) (h : s.length ≤ maxLen) : P_impl_yprinted s lo hi = some (printedIn s lo hi) := by
  rw [P_impl_yprinted, lenOk_pos h, p_impl_yprinted_l, printedIn, printed]
  grind
theorem t_spec_l1Digit (x : Int) : T_spec_l1Digit x = isDigit x := by unfold T_spec_l1Digit isDigit; grind
theorem t_impl_ydigit (x : Int) : T_impl_ydigit x = isDigit x := by unfold T_impl_ydigit isDigit; grind
theorem t_spec_l1Letter (x : Int) : T_spec_l1Letter x = isLetter x := by unfold T_spec_l1Letter isLetter; grind
theorem t_impl_yletter (x : Int) : T_impl_yletter x = isLetter x := by unfold T_impl_yletter isLetter; grind
theorem t_impl_ywordByte (x : Int) : T_impl_ywordByte x = isWord x := by unfold T_impl_ywordByte isWord; rw [t_impl_yletter, t_impl_ydigit]; grind
theorem p_spec_GoodName_l (s : List Int) : P_spec_GoodName_0_4 s = some (s.all isWord) := by
  induction s with
  | nil => rfl
  | cons e r ih =>
    simp only [P_spec_GoodName_0_4, ih, List.all_cons, isWord, t_spec_l1Letter, t_spec_l1Digit]
    grind
theorem p_spec_GoodName {s : List Int} (h : s.length ≤ maxLen) : P_spec_GoodName s = some (goodName s) := by
  rw [P_spec_GoodName, lenOk_pos h, p_spec_GoodName_l, goodName]
  simp only [t_spec_l1Digit, inB]
  grind
theorem p_impl_GoodName_l (s : List Int) : P_impl_GoodName_0_4 s = some (s.all isWord) := by
  induction s with
  | nil => rfl
  | cons e r ih =>
    simp only [P_impl_GoodName_0_4, ih, List.all_cons, t_impl_ywordByte]
    grind
theorem p_impl_GoodName {s : List Int} (h : s.length ≤ maxLen) : P_impl_GoodName s = some (goodName s) := by
  rw [P_impl_GoodName, lenOk_pos h, p_impl_GoodName_l, goodName]
  simp only [t_impl_ydigit, inB]
  cases s with
  | nil => rfl
  | cons x s => grind
theorem p_spec_l1Pow2_l (x : Int) (hx : x ≤ 62) : ∀ (m : Nat) (k : Int), 0 ≤ k → k ≤ x → x - k < m → P_spec_l1Pow2_0_3 x m (2 ^ k.toNat) k = some (2 ^ x.toNat) := by
  intro m
  induction m with
  | zero => intro k _ _ h; omega
  | succ m ih =>
    intro k h0 hk hm
    rw [P_spec_l1Pow2_0_3]
    by_cases h : k < x
    · have e : (2 : Int) ^ k.toNat * 2 = 2 ^ (k + 1).toNat := by
        rw [show (k + 1).toNat = k.toNat + 1 by omega, Int.pow_succ]
      have hb : (2 : Int) ^ (k + 1).toNat ≤ 2 ^ 62 := by
        have := Nat.pow_le_pow_right (n := 2) (by omega) (show (k + 1).toNat ≤ 62 by omega)
        exact_mod_cast this
      have hp : (0 : Int) < 2 ^ (k + 1).toNat := Int.pow_pos (by omega)
      rw [decide_eq_true h, e, wrapU (by omega), wrapU (by omega)]
      exact ih _ (by omega) (by omega) (by omega)
    · have : k = x := by omega
      subst this
      rw [decide_eq_false h]; rfl
theorem p_spec_l1Pow2 {x : Int} (h0 : 0 ≤ x) (hx : x ≤ 62) : E_spec_l1Pow2 x = some (pow2 x) := by
  refine evOpt_of ⟨x.toNat + 1, fun m hm => ?_⟩
  have := p_spec_l1Pow2_l x hx m 0 (by omega) h0 (by omega)
  exact this
theorem p_spec_l1Block {a : Atm} (h0 : 0 ≤ a.2.1) (h1 : a.2.1 ≤ 9223372036854775807) (h : a.2.1.tmod 64 ≤ 32) : P_spec_l1Block a = some (a.2.1.tdiv 64, pow2 (32 - a.2.1.tmod 64)) := by
  have hm := Int.tmod_nonneg 64 h0
  have hd : a.2.1.tdiv 64 = a.2.1 / 64 := Int.tdiv_eq_ediv_of_nonneg h0
  rw [P_spec_l1Block, wrapU (by omega), p_spec_l1Pow2 (by omega) (by omega), wrapU (by omega)]
  rfl
theorem p_spec_GoodAtom {a : Atm} (hw : wfD TyAtom a) : P_spec_GoodAtom a = some (goodAtom a) := by
  have hw2 : inK .i64 a.1 = true ∧ inK .i64 a.2.1 = true ∧ wfD .str a.2.2.1 ∧ wfD .str a.2.2.2 := hw
  have h1 := wfS_len hw2.2.2.1
  have h2 := wfS_len hw2.2.2.2
  have hn := hw2.2.1
  rw [inK_iff, min_i64, max_i64] at hn
  have hp : E_spec_l1Pow2 32 = some 4294967296 := p_spec_l1Pow2 (x := 32) (by omega) (by omega)
  have hb := p_spec_l1Block (a := a)
  have hd : 0 ≤ a.2.1 → a.2.1.tdiv 64 = a.2.1 / 64 := fun h => Int.tdiv_eq_ediv_of_nonneg h
  have hw1 : IntKind.wrap .i64 (4294967296 - 1) = 4294967295 := wrapU (by omega)
  have hpos : pow2 (32 - a.2.1.tmod 64) ≠ 0 := by unfold pow2; exact Int.ne_of_gt (Int.pow_pos (by omega))
  have hwr : 0 ≤ a.2.1 → IntKind.wrap .i64 (a.2.1.tdiv 64) = a.2.1.tdiv 64 := fun h => wrapU (by have := hd h; omega)
  simp only [P_spec_GoodAtom, P_spec_GoodAtom_1_3, P_spec_GoodAtom_1_8, p_spec_l1Printed h1, p_spec_GoodName h2, hp, Option.bind_some, hw1]
  unfold goodAtom printedIn printed
  by_cases k6 : a.1 = 6
  · simp only [k6]
    by_cases h0 : a.2.1 < 0
    · have : ¬ 0 ≤ a.2.1 := by omega
      grind
    · have h0' : 0 ≤ a.2.1 := by omega
      rw [hwr h0']
      by_cases h32 : a.2.1.tmod 64 ≤ 32
      · rw [hb h0' hn.2 h32]
        simp only [Option.bind_some]
        grind
      · grind
  · clear hb hd hpos hwr hp hw hw2
    simp only [k6, decide_false, cond_false, and_c, or_c, some_cond, some_dec]
    grind (splits := 30)
theorem p_impl_GoodAtom {a : Atm} (hw : wfD TyAtom a) : P_impl_GoodAtom a = some (goodAtom a) := by
  have hw2 : inK .i64 a.1 = true ∧ inK .i64 a.2.1 = true ∧ wfD .str a.2.2.1 ∧ wfD .str a.2.2.2 := hw
  have h1 := wfS_len hw2.2.2.1
  have h2 := wfS_len hw2.2.2.2
  have hn := hw2.2.1
  rw [inK_iff, min_i64, max_i64] at hn
  have hd : 0 ≤ a.2.1 → a.2.1.tdiv 64 = a.2.1 / 64 := fun h => Int.tdiv_eq_ediv_of_nonneg h
  have hwr : 0 ≤ a.2.1 → IntKind.wrap .i64 (a.2.1.tdiv 64) = a.2.1.tdiv 64 := fun h => wrapU (by have := hd h; omega)
  have hmm : 0 ≤ a.2.1 → 0 ≤ a.2.1.tmod 64 := fun h => Int.tmod_nonneg 64 h
  simp only [P_impl_GoodAtom, P_impl_GoodAtom_1_2, P_impl_GoodAtom_1_7, p_impl_yprinted _ _ h1, p_impl_GoodName h2, Option.bind_some]
  unfold goodAtom
  by_cases k6 : a.1 = 6
  · simp only [k6]
    by_cases h0 : a.2.1 < 0
    · have : ¬ 0 ≤ a.2.1 := by omega
      grind
    · have h0' : 0 ≤ a.2.1 := by omega
      have hm0 := hmm h0'
      rw [hwr h0']
      by_cases h32 : a.2.1.tmod 64 ≤ 32
      · have hws : IntKind.wrap .i64 (32 - a.2.1.tmod 64) = 32 - a.2.1.tmod 64 := wrapU (by omega)
        have hmn : min (32 - a.2.1.tmod 64).toNat 64 = (32 - a.2.1.tmod 64).toNat := by omega
        have hb : (2 : Int) ^ (32 - a.2.1.tmod 64).toNat ≤ 2 ^ 32 := by
          have := Nat.pow_le_pow_right (n := 2) (by omega) (show (32 - a.2.1.tmod 64).toNat ≤ 32 by omega)
          exact_mod_cast this
        have hp : (0 : Int) < 2 ^ (32 - a.2.1.tmod 64).toNat := Int.pow_pos (by omega)
        rw [hws, hmn, Int.one_mul, wrapU (by omega)]
        unfold pow2
        have hp2 : (2 : Int) ^ (32 - a.2.1.tmod 64).toNat ≠ 0 := by omega
        generalize (2 : Int) ^ (32 - a.2.1.tmod 64).toNat = q at *
        grind
      · grind
  · grind
theorem p_impl_ygoodRef {a : Atm} (hw : wfD TyAtom a) : P_impl_ygoodRef a = some (goodRef a) := by
  rw [P_impl_ygoodRef, p_impl_GoodAtom hw, goodRef]; grind
theorem t_impl_yzeroAtom (a : Atm) : T_impl_yzeroAtom a = decide (a = (0, 0, [], [])) := by unfold T_impl_yzeroAtom; exact decide_eq_decide.2 Iff.rfl
def goodHead (h : DHead) : Bool :=
  bif decide (h.1 = 1) || decide (h.1 = 5) || decide (h.1 = 6) then @decide (h.2.1 = (0, 0, ([] : List Int), ([] : List Int))) (Ty.decEq TyAtom h.2.1 (0, 0, ([] : List Int), ([] : List Int))) && decide (h.2.2 = ([] : List Int))
  else bif decide (h.1 = 2) || decide (h.1 = 3) then goodRef h.2.1 && decide (h.2.2 = ([] : List Int))
  else bif decide (h.1 = 4) then @decide (h.2.1 = (0, 0, ([] : List Int), ([] : List Int))) (Ty.decEq TyAtom h.2.1 (0, 0, ([] : List Int), ([] : List Int))) && goodName h.2.2
  else false
theorem p_spec_l10GoodHead {h : DHead} (hw : wfD TyHead h) : P_spec_l10GoodHead h true = some (goodHead h) := by
  have h1 : wfD TyAtom h.2.1 := hw.2.1
  have h2 : wfD .str h.2.2 := hw.2.2
  simp only [P_spec_l10GoodHead, P_spec_l10GoodHead_1_6, p_spec_GoodAtom h1, p_spec_GoodName (wfS_len h2), Option.bind_some, goodHead, goodRef, and_c, or_c, some_cond, some_dec, cond_true]
  clear hw h1 h2
  grind (splits := 30)
theorem p_impl_ygoodHead {h : DHead} (hw : wfD TyHead h) : P_impl_ygoodHead h false = some (goodHead h) := by
  have h1 : wfD TyAtom h.2.1 := hw.2.1
  have h2 : wfD .str h.2.2 := hw.2.2
  simp only [P_impl_ygoodHead, P_impl_ygoodHead_1_6, P_impl_ygoodHead_1_11, p_impl_ygoodRef h1, p_impl_GoodName (wfS_len h2), T_impl_yzeroAtom, Option.bind_some, goodHead, and_c, or_c, some_cond, some_dec, Bool.not_false]
  clear hw h1 h2
  grind (splits := 30)
theorem p_spec_l3Has_l (a : List Int) (xs : List (List Int)) : P_spec_l3Has_0_2 a xs = some (decide (a ∈ xs)) := by
  induction xs with
  | nil => simp [P_spec_l3Has_0_2]
  | cons e r ih =>
    rw [P_spec_l3Has_0_2, ih]
    by_cases h : e = a
    · subst h; simp
    · have h' : ¬ a = e := fun q => h q.symm
      simp [h, h']
theorem p_spec_l3Has {xs : List (List Int)} (h : xs.length ≤ maxLen) (a : List Int) : P_spec_l3Has xs a = some (decide (a ∈ xs)) := by
  rw [P_spec_l3Has, lenOk_pos h, p_spec_l3Has_l]
theorem p_Index_str (a : List Int) : ∀ (l : List (List Int)) (k : Nat), ∃ y : Int, P_slices_Index_string_string_0_2 a l k = some y ∧ decide (0 ≤ y) = decide (a ∈ l)
  | [], k => ⟨-1, rfl, by simp⟩
  | e :: r, k => by
    obtain ⟨y, h1, h2⟩ := p_Index_str a r (k + 1)
    rw [P_slices_Index_string_string_0_2, h1]
    by_cases h : a = e
    · subst h
      exact ⟨k, by simp, by simp⟩
    · refine ⟨y, by simp [h], ?_⟩
      rw [h2]
      simp [h]
theorem p_Contains_str {l : List (List Int)} (h : l.length ≤ maxLen) (a : List Int) : P_slices_Contains_string_string l a = some (decide (a ∈ l)) := by
  obtain ⟨y, h1, h2⟩ := p_Index_str a l 0
  rw [P_slices_Contains_string_string, P_slices_Index_string_string, lenOk_pos h, h1, Option.bind_some, h2]
def isIdB (c : Int) : Bool := isLetter c || isDigit c || decide (c = 95) || decide (c = 45) || decide (c = 46)
def goodId (s : List Int) : Bool := s.all isIdB && decide (1 ≤ s.length) && decide (s.length ≤ 40)
theorem p_spec_l7Id_l (xs : List Int) : ∀ s : List Int, P_spec_l7Id_0_2 xs s = some (s.all isIdB && (decide (1 ≤ xs.length) && decide (xs.length ≤ 40)))
  | [] => by
    rw [P_spec_l7Id_0_2]
    by_cases h : 1 ≤ xs.length
    · have h' : (1 : Int) ≤ (xs.length : Int) := by omega
      simp [h, h']; omega
    · have h' : ¬ (1 : Int) ≤ (xs.length : Int) := by omega
      simp [h, h']
  | e :: r => by
    rw [P_spec_l7Id_0_2, p_spec_l7Id_l xs r, t_spec_l1Letter, t_spec_l1Digit, List.all_cons, isIdB]
    grind
theorem p_spec_l7Id {s : List Int} (h : s.length ≤ maxLen) : P_spec_l7Id s = some (goodId s) := by
  rw [P_spec_l7Id, lenOk_pos h, p_spec_l7Id_l, goodId, Bool.and_assoc]
theorem p_impl_ygoodId_l : ∀ s : List Int, P_impl_ygoodId_0_4 s = some (s.all isIdB)
  | [] => rfl
  | e :: r => by
    rw [P_impl_ygoodId_0_4, p_impl_ygoodId_l r, t_impl_ywordByte, List.all_cons, isIdB, isWord]
    grind
theorem p_impl_ygoodId {s : List Int} (h : s.length ≤ maxLen) : P_impl_ygoodId s = some (goodId s) := by
  rw [P_impl_ygoodId, lenOk_pos h, p_impl_ygoodId_l, goodId]
  by_cases h1 : 1 ≤ s.length
  · by_cases h2 : s.length ≤ 40
    · have q1 : ¬ (s.length : Int) < 1 := by omega
      have q2 : ¬ (40 : Int) < (s.length : Int) := by omega
      simp [h1, h2, q1, q2]
    · have q1 : ¬ (s.length : Int) < 1 := by omega
      have q2 : (40 : Int) < (s.length : Int) := by omega
      simp [h1, h2, q1, q2]
  · have q1 : (s.length : Int) < 1 := by omega
    simp [h1, q1]
def toks (st : Int) : List Int → List Int → List Int × Bool
  | [], acc => (acc, true)
  | x :: r, acc => bif decide (x = 42) then toks st r (acc ++ [st]) else bif decide (x = 92) then (match r with
    | [] => ([], false)
    | c :: r' => bif decide (c = 42) || decide (c = 92) then toks st r' (acc ++ [IntKind.wrap .i64 c]) else ([], false)) else toks st r (acc ++ [IntKind.wrap .i64 x])
theorem toks_star {st x : Int} (h : x = 42) (r acc : List Int) : toks st (x :: r) acc = toks st r (acc ++ [st]) := by rw [toks.eq_def]; simp only [h]; rfl
theorem toks_end {st x : Int} (h : x = 92) (acc : List Int) : toks st (x :: []) acc = ([], false) := by rw [toks.eq_def]; simp only [h]; rfl
theorem toks_esc {st x c : Int} (h : x = 92) (r acc : List Int) : toks st (x :: c :: r) acc = bif decide (c = 42) || decide (c = 92) then toks st r (acc ++ [IntKind.wrap .i64 c]) else ([], false) := by rw [toks.eq_def]; simp only [h]; rfl
theorem toks_any {st x : Int} (h : x ≠ 42) (h2 : x ≠ 92) (r acc : List Int) : toks st (x :: r) acc = toks st r (acc ++ [IntKind.wrap .i64 x]) := by rw [toks.eq_def]; simp only [decide_eq_false h, decide_eq_false h2]; rfl
theorem toks_ok (st st' : Int) : ∀ (n : Nat) (s acc acc' : List Int), s.length ≤ n → (toks st s acc).2 = (toks st' s acc').2
  | 0, s, acc, acc', h => by
    have : s = [] := List.length_eq_zero_iff.1 (by omega)
    subst this; rfl
  | n + 1, [], acc, acc', h => rfl
  | n + 1, x :: r, acc, acc', h => by
    have hr : r.length ≤ n := by simpa using h
    rw [toks.eq_def, toks.eq_def]
    simp only
    cases decide (x = 42) with
    | true => exact toks_ok st st' n r _ _ hr
    | false =>
      cases decide (x = 92) with
      | false => exact toks_ok st st' n r _ _ hr
      | true =>
        cases r with
        | nil => rfl
        | cons c r' =>
          simp only [cond_true, cond_false]
          cases decide (c = 42) || decide (c = 92) with
          | true => exact toks_ok st st' n r' _ _ (by simp at hr; omega)
          | false => rfl
def tokOk (s : List Int) : Bool := (toks 256 s []).2
theorem at_drop {s : List Int} {k : Nat} {x : Int} {r : List Int} (h : s.drop k = x :: r) : k < s.length ∧ rd s (k : Int) 0 = x ∧ s.drop (k + 1) = r := by
  obtain ⟨h1, h2, h3⟩ := drop_cons (d := (0 : Int)) h.symm
  exact ⟨h1, h2, h3.symm⟩
theorem room_one {α : Type} {xs ys : List α} {b : Nat} (hx : xs.length ≤ 3000000) (hy : ys.length ≤ 1) (hb : b ≤ 1000) : (decide (((xs.length : Int) + (ys.length : Int)) * (b : Int) ≤ room) && decide ((xs.length : Int) + (ys.length : Int) ≤ room)) = true := by
  have h : (xs.length + ys.length) * b ≤ 3000001 * 1000 := Nat.mul_le_mul (by omega) hb
  rw [room_eq, Bool.and_eq_true, decide_eq_true_eq, decide_eq_true_eq]
  have h2 : ((xs.length : Int) + (ys.length : Int)) * (b : Int) = (((xs.length + ys.length) * b : Nat) : Int) := by push_cast; rfl
  rw [h2]
  omega
theorem p_spec_l1Tokens_l {s : List Int} (hs : s.length ≤ 2000000) : ∀ (n : Nat) (k : Nat), s.length - k ≤ n → k ≤ s.length → ∀ (m : Nat) (acc : List Int), n < m → acc.length ≤ k →
    P_spec_l1Tokens_0_3 s m acc (k : Int) = some (toks 256 (s.drop k) acc) := by
  intro n
  induction n using Nat.strongRecOn with
  | ind n ih =>
    intro k hn hk m acc hm ha
    obtain ⟨m, rfl⟩ : ∃ j, m = j + 1 := ⟨m - 1, by omega⟩
    rw [P_spec_l1Tokens_0_3]
    cases hd : s.drop k with
    | nil =>
      have : s.length ≤ k := List.drop_eq_nil_iff.1 hd
      rw [decide_eq_false (show ¬ (k : Int) < (s.length : Int) by omega)]
      rfl
    | cons x r =>
      obtain ⟨h1, h2, h3⟩ := at_drop hd
      have hw : IntKind.wrap .i64 ((k : Int) + 1) = ((k + 1 : Nat) : Int) := wrap_succ (show s.length ≤ maxLen by unfold maxLen; omega) h1
      have hg : ∀ z : List Int, z.length ≤ 1 → (decide (((acc.length : Int) + (z.length : Int)) * 8 ≤ room) && decide ((acc.length : Int) + (z.length : Int) ≤ room)) = true := fun z hz => room_one (b := 8) (by omega) hz (by omega)
      have go : ∀ z : Int, P_spec_l1Tokens_0_3 s m (acc ++ [z]) ((k + 1 : Nat) : Int) = some (toks 256 r (acc ++ [z])) := by
        intro z
        rw [← h3]
        exact ih (s.length - (k + 1)) (by omega) (k + 1) (by omega) (by omega) m _ (by omega) (by simp; omega)
      rw [decide_eq_true (show (k : Int) < (s.length : Int) by omega), inB_nat2 h1, h2, hw]
      simp only [cond_true]
      by_cases e1 : x = 42
      · rw [decide_eq_true e1]
        simp only [cond_true, hg [256] (by simp)]
        rw [go, toks_star e1]
      · rw [decide_eq_false e1]
        simp only [cond_false]
        by_cases e2 : x = 92
        · rw [decide_eq_true e2]
          simp only [cond_true]
          cases hr : r with
          | nil =>
            have hl : s.length = k + 1 := by
              rw [hr] at h3
              have := List.drop_eq_nil_iff.1 h3
              omega
            rw [decide_eq_true (show ((k + 1 : Nat) : Int) = (s.length : Int) by omega)]
            rw [toks_end e2]; rfl
          | cons c r' =>
            rw [hr] at h3
            obtain ⟨g1, g2, g3⟩ := at_drop h3
            have hw2 : IntKind.wrap .i64 (((k + 1 : Nat) : Int) + 1) = ((k + 1 + 1 : Nat) : Int) := wrap_succ (show s.length ≤ maxLen by unfold maxLen; omega) g1
            have fin : ∀ z : Int, P_spec_l1Tokens_0_3 s m (acc ++ [z]) ((k + 1 + 1 : Nat) : Int) = some (toks 256 r' (acc ++ [z])) := by
              intro z
              rw [← g3]
              exact ih (s.length - (k + 1 + 1)) (by omega) (k + 1 + 1) (by omega) (by omega) m _ (by omega) (by simp; omega)
            rw [decide_eq_false (show ¬ ((k + 1 : Nat) : Int) = (s.length : Int) by omega), inB_nat2 g1, g2, hw2]
            simp only [cond_true, cond_false, hg _ (show ([IntKind.wrap .i64 c] : List Int).length ≤ 1 by simp)]
            rw [fin, toks_esc e2]
            cases decide (c = 42) <;> cases decide (c = 92) <;> rfl
        · rw [decide_eq_false e2]
          simp only [cond_false, hg _ (show ([IntKind.wrap .i64 x] : List Int).length ≤ 1 by simp), cond_true]
          rw [go, toks_any e1 e2]
theorem p_spec_l1Tokens {s : List Int} (hs : s.length ≤ 2000000) : E_spec_l1Tokens s = some (toks 256 s []) :=
  evOpt_of ⟨s.length + 1, fun m hm => p_spec_l1Tokens_l hs s.length 0 (by omega) (by omega) m [] (by omega) (by simp)⟩
theorem p_impl_ypattern_l {s : List Int} (hs : s.length ≤ 2000000) : ∀ (n : Nat) (k : Nat), s.length - k ≤ n → k ≤ s.length → ∀ (m : Nat) (acc : List Int), n < m → acc.length ≤ k →
    P_impl_ypattern_0_3 s m acc (k : Int) = some (toks (-1) (s.drop k) acc) := by
  intro n
  induction n using Nat.strongRecOn with
  | ind n ih =>
    intro k hn hk m acc hm ha
    obtain ⟨m, rfl⟩ : ∃ j, m = j + 1 := ⟨m - 1, by omega⟩
    rw [P_impl_ypattern_0_3]
    cases hd : s.drop k with
    | nil =>
      have : s.length ≤ k := List.drop_eq_nil_iff.1 hd
      rw [decide_eq_false (show ¬ (k : Int) < (s.length : Int) by omega)]
      rfl
    | cons x r =>
      obtain ⟨h1, h2, h3⟩ := at_drop hd
      have hw : IntKind.wrap .i64 ((k : Int) + 1) = ((k + 1 : Nat) : Int) := wrap_succ (show s.length ≤ maxLen by unfold maxLen; omega) h1
      have hg : ∀ z : List Int, z.length ≤ 1 → (decide (((acc.length : Int) + (z.length : Int)) * 8 ≤ room) && decide ((acc.length : Int) + (z.length : Int) ≤ room)) = true := fun z hz => room_one (b := 8) (by omega) hz (by omega)
      have go : ∀ z : Int, P_impl_ypattern_0_3 s m (acc ++ [z]) ((k + 1 : Nat) : Int) = some (toks (-1) r (acc ++ [z])) := by
        intro z
        rw [← h3]
        exact ih (s.length - (k + 1)) (by omega) (k + 1) (by omega) (by omega) m _ (by omega) (by simp; omega)
      rw [decide_eq_true (show (k : Int) < (s.length : Int) by omega), inB_nat2 h1, h2, hw]
      simp only [cond_true]
      by_cases e1 : x = 42
      · rw [decide_eq_true e1]
        simp only [cond_true, hg [-1] (by simp)]
        rw [go, toks_star e1]
      · rw [decide_eq_false e1]
        simp only [cond_false]
        by_cases e2 : x = 92
        · rw [decide_eq_true e2]
          simp only [cond_true]
          cases hr : r with
          | nil =>
            have hl : s.length = k + 1 := by
              rw [hr] at h3
              have := List.drop_eq_nil_iff.1 h3
              omega
            rw [decide_eq_true (show (s.length : Int) ≤ ((k + 1 : Nat) : Int) by omega)]
            rw [toks_end e2]; rfl
          | cons c r' =>
            rw [hr] at h3
            obtain ⟨g1, g2, g3⟩ := at_drop h3
            have hw2 : IntKind.wrap .i64 (((k + 1 : Nat) : Int) + 1) = ((k + 1 + 1 : Nat) : Int) := wrap_succ (show s.length ≤ maxLen by unfold maxLen; omega) g1
            have fin : ∀ z : Int, P_impl_ypattern_0_3 s m (acc ++ [z]) ((k + 1 + 1 : Nat) : Int) = some (toks (-1) r' (acc ++ [z])) := by
              intro z
              rw [← g3]
              exact ih (s.length - (k + 1 + 1)) (by omega) (k + 1 + 1) (by omega) (by omega) m _ (by omega) (by simp; omega)
            rw [decide_eq_false (show ¬ (s.length : Int) ≤ ((k + 1 : Nat) : Int) by omega), inB_nat2 g1, g2, hw2]
            simp only [cond_true, cond_false, hg _ (show ([IntKind.wrap .i64 c] : List Int).length ≤ 1 by simp)]
            rw [fin, toks_esc e2]
            cases decide (c = 42) <;> cases decide (c = 92) <;> rfl
        · rw [decide_eq_false e2]
          simp only [cond_false, hg _ (show ([IntKind.wrap .i64 x] : List Int).length ≤ 1 by simp), cond_true]
          rw [go, toks_any e1 e2]
theorem p_impl_ypattern {s : List Int} (hs : s.length ≤ 2000000) : E_impl_ypattern s = some (toks (-1) s []) :=
  evOpt_of ⟨s.length + 1, fun m hm => p_impl_ypattern_l hs s.length 0 (by omega) (by omega) m [] (by omega) (by simp)⟩
def varsL : List (List Int) := [[112, 114, 105, 110, 99, 105, 112, 97, 108], [97, 99, 116, 105, 111, 110], [114, 101, 115, 111, 117, 114, 99, 101], [99, 111, 110, 116, 101, 120, 116]]
def arity (k : Int) : Int :=
  bif decide (k = 1) || decide (k = 3) then 0 else bif decide (k = 2) then -2 else bif decide (k = 4) || decide (k = 5) || decide (k = 6) || decide (k = 7) || decide (k = 20) || decide (k = 21) then 1
  else bif decide (k = 10) then 3 else bif decide (8 ≤ k) && decide (k ≤ 19) then 2 else -1
theorem p_spec_l10Arity (k : Int) : P_spec_l10Arity k = some (arity k) := by
  simp only [P_spec_l10Arity, P_spec_l10Arity_1_4, P_spec_l10Arity_1_13, arity, and_c, or_c, some_cond]
  grind (splits := 30)
def zeroA (a : DAtom) : Bool := @decide (a = (0, 0, ([] : List Int), ([] : List Int))) (Ty.decEq TyAtom a (0, 0, ([] : List Int), ([] : List Int)))
def textOk (n : DExpr) : Bool :=
  bif decide (n.1 = 1) then decide (n.2.1 = []) && goodAtom n.2.2.1 else bif decide (n.1 = 3) then decide (n.2.1 ∈ varsL) else bif decide (n.1 = 4) || decide (n.1 = 5) || decide (n.1 = 21) then goodName n.2.1
  else bif decide (n.1 = 20) then tokOk n.2.1 && (decide ((n.2.1.length : Int) ≤ 200) && printed n.2.1) else decide (n.2.1 = [])
def nodeS (n : DExpr) (c : Int) : Bool := !decide (arity n.1 = -1) && (!decide (0 ≤ arity n.1) || decide (c = arity n.1)) && (decide (n.1 = 1) || zeroA n.2.2.1) && textOk n
theorem Tree.eta {α : Type} (t : Tree α) : Tree.node t.val t.kids = t := by cases t; rfl
def kidOk (k : Int) (t : Dl10E) : Bool := !decide (k = 2) || decide (t.val.1 = 1)
theorem p_spec_l10Right_k {Rc : Dl10E → Option Bool} {f : Dl10E → Bool} (n : DExpr) : ∀ (l : List Dl10E) (x : Bool), (∀ t ∈ l, Rc t = some (f t)) → P_spec_l10Right_0_19 Rc n l x = some (x && l.all fun t => f t && kidOk n.1 t)
  | [], x, _ => by rw [P_spec_l10Right_0_19]; simp
  | e :: r, x, h => by
    have ih := fun x => p_spec_l10Right_k n r x (fun t ht => h t (by simp [ht]))
    rw [P_spec_l10Right_0_19, Tree.eta, h e (by simp), ih, ih, ih, List.all_cons, kidOk]
    cases x <;> cases f e <;> cases decide (n.1 = 2) <;> cases decide (e.val.1 = 1) <;> simp
theorem p_spec_l10Right_s {Rc : Dl10E → Option Bool} {f : Dl10E → Bool} {t : Dl10E} (hw : wfD TyExpr t.val) (hx : t.val.2.1.length ≤ 2000000) (hk : t.kids.length ≤ maxLen) (h : ∀ k ∈ t.kids, Rc k = some (f k)) :
    P_spec_l10Right Rc t = some (nodeS t.val (t.kids.length : Int) && t.kids.all fun k => f k && kidOk t.val.1 k) := by
  have hL : ∀ b, lenOk t.kids (P_spec_l10Right_0_19 Rc t.val t.kids b) = some (b && t.kids.all fun k => f k && kidOk t.val.1 k) := fun b => by rw [lenOk_pos hk, p_spec_l10Right_k t.val t.kids b h]
  have h1 : wfD TyAtom t.val.2.2.1 := hw.2.2.1
  have h2 : t.val.2.1.length ≤ maxLen := wfS_len hw.2.1
  have hv : P_spec_l3Has T_spec_l10Vars t.val.2.1 = some (decide (t.val.2.1 ∈ varsL)) := p_spec_l3Has (xs := varsL) (by show (4 : Nat) ≤ maxLen; unfold maxLen; omega) _
  have ht : (toks 256 t.val.2.1 []).2 = tokOk t.val.2.1 := rfl
  simp only [P_spec_l10Right, P_spec_l10Right_1_5, P_spec_l10Right_1_14, Tree.eta, hL, p_spec_l10Arity, p_spec_GoodAtom h1, p_spec_GoodName h2, p_spec_l1Tokens hx, p_spec_l1Printed h2, hv, Option.bind_some, ht]
  generalize (t.kids.all fun k => f k && kidOk t.val.1 k) = K
  simp only [nodeS, textOk, zeroA, and_c, or_c, some_cond, some_dec]
  clear hw h h1 h2 hv hL ht hx hk
  grind (splits := 40)
def kidsR (k : Int) : Int × Int :=
  bif decide (k = 1) || decide (k = 3) then (0, 0) else bif decide (k = 2) then (0, 10) else bif decide (k = 4) || decide (k = 5) || decide (k = 6) || decide (k = 7) || decide (k = 20) || decide (k = 21) then (1, 1)
  else bif decide (k = 10) then (3, 3) else (2, 2)
theorem p_impl_ykidsOf (k : Int) : P_impl_ykidsOf k = some (kidsR k) := by
  simp only [P_impl_ykidsOf, P_impl_ykidsOf_1_4, kidsR, and_c, or_c, some_cond]
  grind (splits := 40)
def nodeOk (n : DExpr) : Bool := decide (1 ≤ n.1) && decide (n.1 ≤ 21) && (decide ((kidsR n.1).1 ≤ n.2.2.2) && decide (n.2.2.2 ≤ (kidsR n.1).2)) && (decide (n.1 = 1) || zeroA n.2.2.1) && textOk n
theorem p_impl_ygoodExprNode {g : List (List Int)} (hg : g = varsL) {n : DExpr} (hw : wfD TyExpr n) (hx : n.2.1.length ≤ 2000000) : P_impl_ygoodExprNode g n = some (nodeOk n) := by
  subst hg
  have h1 : wfD TyAtom n.2.2.1 := hw.2.2.1
  have h2 : n.2.1.length ≤ maxLen := wfS_len hw.2.1
  have hv : P_slices_Contains_string_string varsL n.2.1 = some (decide (n.2.1 ∈ varsL)) := p_Contains_str (by show (4 : Nat) ≤ maxLen; unfold maxLen; omega) _
  have ht : (toks (-1) n.2.1 []).2 = tokOk n.2.1 := toks_ok _ _ n.2.1.length _ _ _ (Nat.le_refl _)
  have hp : printedIn n.2.1 0 200 = (decide ((n.2.1.length : Int) ≤ 200) && printed n.2.1) := by
    unfold printedIn printed
    rw [decide_eq_false (show ¬ (n.2.1.length : Int) < 0 by omega)]
    by_cases q : (n.2.1.length : Int) ≤ 200
    · rw [decide_eq_true q, decide_eq_false (show ¬ (200 : Int) < (n.2.1.length : Int) by omega)]; rfl
    · rw [decide_eq_false q, decide_eq_true (show (200 : Int) < (n.2.1.length : Int) by omega)]; rfl
  simp only [P_impl_ygoodExprNode, P_impl_ygoodExprNode_1_3, P_impl_ygoodExprNode_1_6, P_impl_ygoodExprNode_1_14, T_impl_yzeroAtom, p_impl_ykidsOf, p_impl_GoodAtom h1, p_impl_GoodName h2, p_impl_ypattern hx, p_impl_yprinted _ _ h2, hv, Option.bind_some, ht, hp, nodeOk, textOk, zeroA, and_c, or_c, some_cond, some_dec]
  clear hw h1 h2 hv ht hx hp
  generalize kidsR n.1 = K
  grind (splits := 40)
theorem nodes_same {n : DExpr} {c : Int} (h : c = n.2.2.2) (h0 : 0 ≤ n.2.2.2) (h1 : n.2.2.2 ≤ 10) : nodeS n c = nodeOk n := by
  subst h
  unfold nodeS nodeOk arity kidsR
  generalize (decide (n.1 = 1) || zeroA n.2.2.1) = A
  generalize textOk n = B
  generalize n.2.2.2 = c at *
  generalize n.1 = k at *
  cases A <;> cases B <;> simp
  grind (splits := 40)
def takeL (f : Nat → Option (Dl10E × Nat)) : Nat → Nat → Option (List Dl10E × Nat)
  | 0, a => some ([], a)
  | c + 1, a => match f a with
    | none => none
    | some (t, a2) => match takeL f c a2 with
      | none => none
      | some (l, a3) => some (t :: l, a3)
def take1 (e : List DExpr) : Nat → Nat → Option (Dl10E × Nat)
  | 0, _ => none
  | d + 1, a => match e[a]? with
    | none => none
    | some n => bif decide (0 ≤ n.2.2.2) && decide (n.2.2.2 ≤ 10) then (match takeL (take1 e d) n.2.2.2.toNat (a + 1) with
      | none => none
      | some (l, a2) => some (.node n l, a2)) else none
def zeroT : Dl10E := Tree.node (0, ([] : List Int), (0, 0, ([] : List Int), ([] : List Int)), 0) []
def resS : Option (Dl10E × Nat) → Dl10E × Int
  | none => (zeroT, -1)
  | some (t, a) => (t, (a : Int))
theorem takeL_le {f : Nat → Option (Dl10E × Nat)} (hf : ∀ a t a2, f a = some (t, a2) → a ≤ a2) : ∀ (c a : Nat) (l : List Dl10E) (a2 : Nat), takeL f c a = some (l, a2) → a ≤ a2 ∧ l.length = c
  | 0, a, l, a2, h => by simp only [takeL, Option.some.injEq, Prod.mk.injEq] at h; obtain ⟨rfl, rfl⟩ := h; exact ⟨Nat.le_refl _, rfl⟩
  | c + 1, a, l, a2, h => by
    simp only [takeL] at h
    split at h
    · cases h
    · rename_i t a3 ht
      split at h
      · cases h
      · rename_i l' a4 hl
        simp only [Option.some.injEq, Prod.mk.injEq] at h
        obtain ⟨rfl, rfl⟩ := h
        have h1 := hf _ _ _ ht
        obtain ⟨h2, h3⟩ := takeL_le hf c a3 l' a4 hl
        exact ⟨by omega, by simp [h3]⟩
theorem p_spec_l10Take_l {Rc : List DExpr → Int → Int → Option (Dl10E × Int)} {e : List DExpr} {deep : Int} {f : Nat → Option (Dl10E × Nat)} (hR : ∀ a : Nat, Rc e (a : Int) (IntKind.wrap .i64 (deep + 1)) = some (resS (f a))) {n : DExpr} (hn : n.2.2.2 ≤ 10) :
    ∀ (c i m a : Nat) (ks : List Dl10E), (i : Int) + c = n.2.2.2 → ks.length = i → c < m → P_spec_l10Take_0_6 Rc e deep m (a : Int) (i : Int) ks (Tree.node n ks) = some (match takeL f c a with
      | none => (zeroT, -1)
      | some (l, a2) => (Tree.node n (ks ++ l), (a2 : Int)))
  | 0, i, m, a, ks, hc, hk, hm => by
    obtain ⟨m, rfl⟩ : ∃ j, m = j + 1 := ⟨m - 1, by omega⟩
    rw [P_spec_l10Take_0_6, decide_eq_false (show ¬ (i : Int) < (Tree.node n ks).val.2.2.2 by show ¬ (i : Int) < n.2.2.2; omega)]
    simp [takeL, Tree.val]
  | c + 1, i, m, a, ks, hc, hk, hm => by
    obtain ⟨m, rfl⟩ : ∃ j, m = j + 1 := ⟨m - 1, by omega⟩
    rw [P_spec_l10Take_0_6, decide_eq_true (show (i : Int) < (Tree.node n ks).val.2.2.2 by show (i : Int) < n.2.2.2; omega), hR a, Option.bind_some, takeL]
    cases hf : f a with
    | none => rfl
    | some q =>
      obtain ⟨t, a2⟩ := q
      have hw : IntKind.wrap .i64 ((i : Int) + 1) = ((i + 1 : Nat) : Int) := wrap_succ (len := 100) (by unfold maxLen; omega) (by omega)
      have ih := p_spec_l10Take_l hR hn c (i + 1) m a2 (ks ++ [t]) (by omega) (by simp; omega) (by omega)
      have hg := room_one (b := 104) (xs := ks) (ys := [t]) (by omega) (by simp) (by omega)
      have hg : (decide (((ks.length : Int) + (([t] : List Dl10E).length : Int)) * 104 ≤ room) && decide ((ks.length : Int) + (([t] : List Dl10E).length : Int) ≤ room)) = true := hg
      simp only [resS, Tree.eta, hw]
      have h5 : ¬ (a2 : Int) < 0 := by omega
      simp only [h5, hg, decide_false, cond_true, cond_false]
      have hv : (Tree.node n ks).val = n := rfl
      rw [hv, ih]
      cases takeL f c a2 with
      | none => rfl
      | some q => obtain ⟨l, a3⟩ := q; simp
theorem take1_le (e : List DExpr) : ∀ (d a : Nat) (t : Dl10E) (a2 : Nat), take1 e d a = some (t, a2) → a < a2 ∧ ∃ n l, e[a]? = some n ∧ t = .node n l ∧ 0 ≤ n.2.2.2 ∧ n.2.2.2 ≤ 10 ∧ takeL (take1 e (d - 1)) n.2.2.2.toNat (a + 1) = some (l, a2)
  | 0, a, t, a2, h => by cases h
  | d + 1, a, t, a2, h => by
    simp only [take1] at h
    split at h
    · cases h
    · rename_i n hn
      cases hc : (decide (0 ≤ n.2.2.2) && decide (n.2.2.2 ≤ 10)) with
      | false => rw [hc] at h; cases h
      | true =>
        rw [hc] at h
        simp only [cond_true] at h
        split at h
        · cases h
        · rename_i l a3 hl
          simp only [Option.some.injEq, Prod.mk.injEq] at h
          obtain ⟨rfl, rfl⟩ := h
          simp only [Bool.and_eq_true, decide_eq_true_eq] at hc
          obtain ⟨h2, _⟩ := takeL_le (fun a t a2 h => Nat.le_of_lt (take1_le e d a t a2 h).1) _ _ _ _ hl
          exact ⟨by omega, n, l, hn, rfl, hc.1, hc.2, hl⟩
theorem rd_at {e : List DExpr} {a : Nat} {n : DExpr} (h : e[a]? = some n) : rd e (a : Int) (Ty.dflt TyExpr) = n := rd_nat h
theorem p_spec_l10Take_r {e : List DExpr} (he : e.length ≤ maxLen) : ∀ (r d : Nat) (a : Nat), d ≤ 12 → d < r → R_spec_l10Take r e (a : Int) (13 - (d : Int)) = some (resS (take1 e d a))
  | 0, d, a, h, hr => by omega
  | r + 1, d, a, h, hr => by
    show (evOpt fun m => P_spec_l10Take (R_spec_l10Take r) m e (a : Int) (13 - (d : Int))) = _
    refine evOpt_of ⟨12, fun m hm => ?_⟩
    unfold P_spec_l10Take
    have zz : (Tree.node (0, ([] : List Int), (0, 0, ([] : List Int), ([] : List Int)), 0) [] : Dl10E) = zeroT := rfl
    rw [zz]
    cases d with
    | zero =>
      rw [decide_eq_true (show (12 : Int) < 13 - ((0 : Nat) : Int) by omega)]
      cases decide ((e.length : Int) ≤ (a : Int)) <;> rfl
    | succ d =>
      rw [decide_eq_false (show ¬ (12 : Int) < 13 - ((d + 1 : Nat) : Int) by omega), take1]
      cases hn : e[a]? with
      | none =>
        have := List.getElem?_eq_none_iff.1 hn
        rw [decide_eq_true (show (e.length : Int) ≤ (a : Int) by omega)]; rfl
      | some n =>
        have ha : a < e.length := (List.getElem?_eq_some_iff.1 hn).1
        rw [decide_eq_false (show ¬ (e.length : Int) ≤ (a : Int) by omega), inB_nat2 ha, rd_at hn]
        simp only [cond_true, cond_false]
        by_cases h0 : 0 ≤ n.2.2.2
        case neg => rw [decide_eq_true (show n.2.2.2 < 0 by omega), decide_eq_false h0]; rfl
        by_cases h1 : n.2.2.2 ≤ 10
        case neg => rw [decide_eq_false (show ¬ n.2.2.2 < 0 by omega), decide_eq_true (show 10 < n.2.2.2 by omega), decide_eq_true h0, decide_eq_false h1]; rfl
        rw [decide_eq_false (show ¬ n.2.2.2 < 0 by omega), decide_eq_false (show ¬ 10 < n.2.2.2 by omega), decide_eq_true h0, decide_eq_true h1, wrap_succ he ha]
        simp only [cond_true, cond_false, Bool.and_self]
        have hd : IntKind.wrap .i64 (13 - ((d + 1 : Nat) : Int) + 1) = 13 - (d : Int) := by
          rw [wrap64 (by omega)]; omega
        have hR : ∀ a : Nat, R_spec_l10Take r e (a : Int) (IntKind.wrap .i64 (13 - ((d + 1 : Nat) : Int) + 1)) = some (resS (take1 e d a)) := fun a => by
          rw [hd]; exact p_spec_l10Take_r he r d a (by omega) (by omega)
        have hl := p_spec_l10Take_l hR h1 n.2.2.2.toNat 0 m (a + 1) [] (by omega) rfl (by omega)
        rw [show ((0 : Nat) : Int) = 0 from rfl] at hl
        rw [hl]
        cases takeL (take1 e d) n.2.2.2.toNat (a + 1) with
        | none => rfl
        | some q => rfl
theorem p_spec_l10Take {e : List DExpr} (he : e.length ≤ maxLen) : E_spec_l10Take e 0 1 = some (resS (take1 e 12 0)) :=
  evOpt_of ⟨13, fun r hr => p_spec_l10Take_r he r 12 0 (by omega) (by omega)⟩
mutual
def setOk : Dl10E → Bool
  | .node n ks => setOkL n.1 ks
def setOkL (k : Int) : List Dl10E → Bool
  | [] => true
  | t :: r => setOk t && kidOk k t && setOkL k r
end
mutual
def flat : Dl10E → List DExpr
  | .node n ks => n :: flatL ks
def flatL : List Dl10E → List DExpr
  | [] => []
  | t :: r => flat t ++ flatL r
end
mutual
def rightB : Dl10E → Bool
  | .node n ks => nodeS n (ks.length : Int) && rightL n.1 ks
def rightL (k : Int) : List Dl10E → Bool
  | [] => true
  | t :: r => (rightB t && kidOk k t) && rightL k r
end
mutual
def hgt : Dl10E → Nat
  | .node _ ks => hgtL ks + 1
def hgtL : List Dl10E → Nat
  | [] => 0
  | t :: r => hgt t + hgtL r
end
mutual
def cntOk : Dl10E → Prop
  | .node n ks => (ks.length : Int) = n.2.2.2 ∧ n.2.2.2 ≤ 10 ∧ cntOkL ks
def cntOkL : List Dl10E → Prop
  | [] => True
  | t :: r => cntOk t ∧ cntOkL r
end
theorem rightL_all (k : Int) : ∀ l : List Dl10E, rightL k l = l.all fun t => rightB t && kidOk k t
  | [] => rfl
  | t :: r => by rw [rightL, rightL_all k r, List.all_cons]
theorem hgtL_mem {t : Dl10E} : ∀ {l : List Dl10E}, t ∈ l → hgt t ≤ hgtL l
  | e :: r, h => by
    rw [hgtL]
    rcases List.mem_cons.1 h with rfl | h
    · omega
    · have := hgtL_mem h; omega
theorem flatL_mem {t : Dl10E} {n : DExpr} (hn : n ∈ flat t) : ∀ {l : List Dl10E}, t ∈ l → n ∈ flatL l
  | e :: r, h => by
    rw [flatL, List.mem_append]
    rcases List.mem_cons.1 h with rfl | h
    · exact .inl hn
    · exact .inr (flatL_mem hn h)
theorem cntOkL_mem {t : Dl10E} : ∀ {l : List Dl10E}, cntOkL l → t ∈ l → cntOk t
  | e :: r, hc, h => by
    rw [cntOkL] at hc
    rcases List.mem_cons.1 h with rfl | h
    · exact hc.1
    · exact cntOkL_mem hc.2 h
theorem p_spec_l10Right_r : ∀ (r : Nat) (t : Dl10E), hgt t ≤ r → cntOk t → (∀ n ∈ flat t, wfD TyExpr n ∧ n.2.1.length ≤ 2000000) → R_spec_l10Right r t = some (rightB t)
  | 0, .node n ks, h, _, _ => by rw [hgt] at h; omega
  | r + 1, .node n ks, h, hc, hw => by
    rw [hgt] at h
    rw [cntOk] at hc
    have hn := hw n (by rw [flat]; simp)
    show P_spec_l10Right (R_spec_l10Right r) (.node n ks) = _
    rw [p_spec_l10Right_s (f := rightB) (t := .node n ks) hn.1 hn.2 (by show ks.length ≤ maxLen; unfold maxLen; omega) (fun k hk => p_spec_l10Right_r r k (by have : hgt k ≤ hgtL ks := hgtL_mem hk; omega) (cntOkL_mem hc.2.2 hk) (fun n hn => hw n (by rw [flat, List.mem_cons]; exact .inr (flatL_mem hn hk)))),
      rightB, rightL_all]
    rfl
theorem p_spec_l10Right {t : Dl10E} (hc : cntOk t) (hw : ∀ n ∈ flat t, wfD TyExpr n ∧ n.2.1.length ≤ 2000000) : E_spec_l10Right t = some (rightB t) :=
  evOpt_of ⟨hgt t, fun r hr => p_spec_l10Right_r r t hr hc hw⟩
mutual
theorem right_flat : ∀ t : Dl10E, cntOk t → rightB t = ((flat t).all nodeOk && setOk t)
  | .node n ks, hc => by
    rw [cntOk] at hc
    rw [rightB, flat, setOk, List.all_cons, right_flatL n.1 ks hc.2.2, nodes_same hc.1 (by omega) hc.2.1, Bool.and_assoc]
theorem right_flatL (k : Int) : ∀ l : List Dl10E, cntOkL l → rightL k l = ((flatL l).all nodeOk && setOkL k l)
  | [], _ => rfl
  | t :: r, hc => by
    rw [cntOkL] at hc
    rw [rightL, flatL, setOkL, List.all_append, right_flat t hc.1, right_flatL k r hc.2]
    cases (flat t).all nodeOk <;> cases (flatL r).all nodeOk <;> cases setOk t <;> cases kidOk k t <;> cases setOkL k r <;> rfl
end
theorem slice_app {α : Type} {e : List α} {a b c : Nat} (h1 : a ≤ b) (h2 : b ≤ c) : (e.drop a).take (b - a) ++ (e.drop b).take (c - b) = (e.drop a).take (c - a) := by
  rw [show c - a = (b - a) + (c - b) by omega, List.take_add, List.drop_drop, show a + (b - a) = b by omega]
theorem takeL_flat {e : List DExpr} {f : Nat → Option (Dl10E × Nat)} (hf : ∀ a t a2, f a = some (t, a2) → a ≤ a2 ∧ a2 ≤ e.length ∧ flat t = (e.drop a).take (a2 - a) ∧ cntOk t) :
    ∀ (c a : Nat) (l : List Dl10E) (a2 : Nat), a ≤ e.length → takeL f c a = some (l, a2) → a ≤ a2 ∧ a2 ≤ e.length ∧ flatL l = (e.drop a).take (a2 - a) ∧ cntOkL l ∧ l.length = c
  | 0, a, l, a2, ha, h => by simp only [takeL, Option.some.injEq, Prod.mk.injEq] at h; obtain ⟨rfl, rfl⟩ := h; exact ⟨Nat.le_refl _, ha, by simp [flatL], by rw [cntOkL]; trivial, rfl⟩
  | c + 1, a, l, a2, ha, h => by
    simp only [takeL] at h
    split at h
    · cases h
    · rename_i t a3 ht
      split at h
      · cases h
      · rename_i l' a4 hl
        simp only [Option.some.injEq, Prod.mk.injEq] at h
        obtain ⟨rfl, rfl⟩ := h
        obtain ⟨g1, g2, g3, g4⟩ := hf _ _ _ ht
        obtain ⟨k1, k2, k3, k4, k5⟩ := takeL_flat hf c a3 l' a4 g2 hl
        exact ⟨by omega, k2, by rw [flatL, g3, k3, slice_app g1 k1], by rw [cntOkL]; exact ⟨g4, k4⟩, by simp [k5]⟩
theorem take1_flat {e : List DExpr} : ∀ (d a : Nat) (t : Dl10E) (a2 : Nat), take1 e d a = some (t, a2) → a ≤ a2 ∧ a2 ≤ e.length ∧ flat t = (e.drop a).take (a2 - a) ∧ cntOk t
  | 0, a, t, a2, h => by cases h
  | d + 1, a, t, a2, h => by
    obtain ⟨h1, n, l, hn, rfl, h2, h3, h4⟩ := take1_le e (d + 1) a t a2 h
    have ha : a < e.length := (List.getElem?_eq_some_iff.1 hn).1
    obtain ⟨k1, k2, k3, k4, k5⟩ := takeL_flat (e := e) (fun a t a2 h => take1_flat d a t a2 h) _ _ _ _ (by omega) h4
    refine ⟨by omega, k2, ?_, ?_⟩
    · have hd : e.drop a = n :: e.drop (a + 1) := by
        rw [List.drop_eq_getElem_cons ha]
        congr 1
        exact (List.getElem?_eq_some_iff.1 hn).2
      rw [flat, k3, hd, show a2 - a = (a2 - (a + 1)) + 1 by omega, List.take_succ_cons]
    · rw [cntOk]
      exact ⟨by rw [k5]; omega, h3, k4⟩
def resI : Option (Dl10E × Nat) → Int
  | none => -1
  | some (t, a) => bif setOk t then (a : Int) else -1
theorem p_impl_yexprEnd_l {Rc : List DExpr → Int → Int → Option Int} {e : List DExpr} {deep : Int} {f : Nat → Option (Dl10E × Nat)} (hR : ∀ a : Nat, Rc e (a : Int) (IntKind.wrap .i64 (deep + 1)) = some (resI (f a))) {n : DExpr} (hn : n.2.2.2 ≤ 10)
    (hf : ∀ a t a2, f a = some (t, a2) → e[a]? = some t.val) :
    ∀ (c i m a : Nat), (i : Int) + c = n.2.2.2 → c < m → P_impl_yexprEnd_0_6 Rc e deep n.2.2.2 n m (a : Int) (i : Int) = some (match takeL f c a with
      | none => -1
      | some (l, a2) => bif setOkL n.1 l then (a2 : Int) else -1)
  | 0, i, m, a, hc, hm => by
    obtain ⟨m, rfl⟩ : ∃ j, m = j + 1 := ⟨m - 1, by omega⟩
    rw [P_impl_yexprEnd_0_6, decide_eq_false (show ¬ (i : Int) < n.2.2.2 by omega)]
    rfl
  | c + 1, i, m, a, hc, hm => by
    obtain ⟨m, rfl⟩ : ∃ j, m = j + 1 := ⟨m - 1, by omega⟩
    have hw : IntKind.wrap .i64 ((i : Int) + 1) = ((i + 1 : Nat) : Int) := wrap_succ (len := 100) (by unfold maxLen; omega) (by omega)
    have ih := fun a2 => p_impl_yexprEnd_l hR hn hf c (i + 1) m a2 (by omega) (by omega)
    rw [P_impl_yexprEnd_0_6, decide_eq_true (show (i : Int) < n.2.2.2 by omega), hR a, Option.bind_some, takeL, hw]
    cases hfa : f a with
    | none =>
      have hm1 : decide ((-1 : Int) < 0) = true := by decide
      simp only [resI, hm1, cond_true]
      cases decide (n.1 = 2) with
      | false => rfl
      | true =>
        by_cases ha : a < e.length
        · rw [decide_eq_false (show ¬ (e.length : Int) ≤ (a : Int) by omega), inB_nat2 ha]
          cases decide ((rd e (a : Int) (Ty.dflt TyExpr)).1 = 1) <;> rfl
        · rw [decide_eq_true (show (e.length : Int) ≤ (a : Int) by omega)]; rfl
    | some q =>
      obtain ⟨t, a2⟩ := q
      have hv := hf _ _ _ hfa
      have ha : a < e.length := (List.getElem?_eq_some_iff.1 hv).1
      rw [decide_eq_false (show ¬ (e.length : Int) ≤ (a : Int) by omega), inB_nat2 ha, rd_at hv]
      have h5 : ¬ (a2 : Int) < 0 := by omega
      have hk : ∀ l : List Dl10E, setOkL n.1 (t :: l) = (setOk t && kidOk n.1 t && setOkL n.1 l) := fun l => by rw [setOkL]
      cases hs : setOk t with
      | false =>
        have hm1 : decide ((-1 : Int) < 0) = true := by decide
        simp only [resI, hs, cond_false, cond_true, hm1]
        cases decide (n.1 = 2) <;> cases decide (t.val.1 = 1) <;> cases takeL f c a2 <;> simp [hk, hs]
      | true =>
        simp only [resI, hs, cond_true, cond_false, h5, decide_false, ih a2]
        cases hl : takeL f c a2 with
        | none => cases decide (n.1 = 2) <;> cases decide (t.val.1 = 1) <;> rfl
        | some q =>
          obtain ⟨l, a3⟩ := q
          simp only [hk, hs, kidOk, Bool.true_and]
          cases decide (n.1 = 2) <;> cases decide (t.val.1 = 1) <;> simp
theorem p_impl_yexprEnd_r {e : List DExpr} (he : e.length ≤ maxLen) (hg : ∀ n ∈ e, 0 ≤ n.2.2.2 ∧ n.2.2.2 ≤ 10) : ∀ (r d : Nat) (a : Nat), d ≤ 12 → d < r → R_impl_yexprEnd r e (a : Int) (13 - (d : Int)) = some (resI (take1 e d a))
  | 0, d, a, h, hr => by omega
  | r + 1, d, a, h, hr => by
    show (evOpt fun m => P_impl_yexprEnd (R_impl_yexprEnd r) m e (a : Int) (13 - (d : Int))) = _
    refine evOpt_of ⟨12, fun m hm => ?_⟩
    unfold P_impl_yexprEnd
    cases d with
    | zero =>
      rw [decide_eq_true (show (12 : Int) < 13 - ((0 : Nat) : Int) by omega)]
      cases decide ((e.length : Int) ≤ (a : Int)) <;> rfl
    | succ d =>
      rw [decide_eq_false (show ¬ (12 : Int) < 13 - ((d + 1 : Nat) : Int) by omega), take1]
      cases hn : e[a]? with
      | none =>
        have := List.getElem?_eq_none_iff.1 hn
        rw [decide_eq_true (show (e.length : Int) ≤ (a : Int) by omega)]; rfl
      | some n =>
        have ha : a < e.length := (List.getElem?_eq_some_iff.1 hn).1
        obtain ⟨h0, h1⟩ := hg n (List.mem_of_getElem? hn)
        rw [decide_eq_false (show ¬ (e.length : Int) ≤ (a : Int) by omega), inB_nat2 ha, rd_at hn]
        simp only [cond_true, cond_false]
        rw [decide_eq_true h0, decide_eq_true h1, wrap_succ he ha]
        simp only [cond_true, Bool.and_self]
        have hd : IntKind.wrap .i64 (13 - ((d + 1 : Nat) : Int) + 1) = 13 - (d : Int) := by
          rw [wrap64 (by omega)]; omega
        have hR : ∀ a : Nat, R_impl_yexprEnd r e (a : Int) (IntKind.wrap .i64 (13 - ((d + 1 : Nat) : Int) + 1)) = some (resI (take1 e d a)) := fun a => by
          rw [hd]; exact p_impl_yexprEnd_r he hg r d a (by omega) (by omega)
        have hl := p_impl_yexprEnd_l hR h1 (fun a t a2 h => by
          obtain ⟨_, n', l', q1, rfl, _⟩ := take1_le e d a t a2 h
          exact q1) n.2.2.2.toNat 0 m (a + 1) (by omega) (by omega)
        rw [show ((0 : Nat) : Int) = 0 from rfl] at hl
        rw [hl]
        cases takeL (take1 e d) n.2.2.2.toNat (a + 1) with
        | none => rfl
        | some q => simp only [resI, setOk]
theorem p_impl_yexprEnd {e : List DExpr} (he : e.length ≤ maxLen) (hg : ∀ n ∈ e, 0 ≤ n.2.2.2 ∧ n.2.2.2 ≤ 10) : E_impl_yexprEnd e 0 1 = some (resI (take1 e 12 0)) :=
  evOpt_of ⟨13, fun r hr => p_impl_yexprEnd_r he hg r 12 0 (by omega) (by omega)⟩
def goodExpr (e : List DExpr) : Bool := decide (1 ≤ e.length) && decide (e.length ≤ 60) && (match take1 e 12 0 with
  | none => false
  | some (t, a) => decide (a = e.length) && rightB t)
def treeOf1 (e : List DExpr) : Dl10E := match take1 e 12 0 with
  | none => zeroT
  | some (t, _) => t
def exprIn (e : List DExpr) : Prop := ∀ n ∈ e, wfD TyExpr n ∧ n.2.1.length ≤ 2000000
theorem p_spec_l10Tree {e : List DExpr} (hw : exprIn e) (hl : e.length ≤ maxLen) : ∃ t, P_spec_l10Tree e = some (t, goodExpr e) ∧ (goodExpr e = true → t = treeOf1 e) := by
  unfold P_spec_l10Tree goodExpr treeOf1
  by_cases h1 : 1 ≤ e.length
  case neg => rw [decide_eq_true (show (e.length : Int) < 1 by omega), decide_eq_false h1]; exact ⟨_, rfl, fun h => by simp at h⟩
  by_cases h2 : e.length ≤ 60
  case neg => rw [decide_eq_false (show ¬ (e.length : Int) < 1 by omega), decide_eq_true (show 60 < (e.length : Int) by omega), decide_eq_false h2, decide_eq_true h1]; exact ⟨_, rfl, fun h => by simp at h⟩
  rw [decide_eq_false (show ¬ (e.length : Int) < 1 by omega), decide_eq_false (show ¬ 60 < (e.length : Int) by omega), decide_eq_true h1, decide_eq_true h2, cond_false, cond_false, P_spec_l10Tree_1_3, p_spec_l10Take hl, Option.bind_some]
  cases ht : take1 e 12 0 with
  | none =>
    rw [decide_eq_false (show ¬ (resS none).2 = (e.length : Int) by show ¬ (-1 : Int) = _; omega)]
    exact ⟨_, rfl, fun h => by simp at h⟩
  | some q =>
    obtain ⟨t, a⟩ := q
    obtain ⟨k1, k2, k3, k4⟩ := take1_flat _ _ _ _ ht
    have het : Tree.node (resS (some (t, a))).1.val (resS (some (t, a))).1.kids = t := Tree.eta t
    rw [het]
    dsimp only
    by_cases ha : a = e.length
    · have hf : ∀ n ∈ flat t, wfD TyExpr n ∧ n.2.1.length ≤ 2000000 := fun n hn => hw n (by rw [k3] at hn; exact List.mem_of_mem_drop (List.mem_of_mem_take hn))
      rw [decide_eq_true (show (resS (some (t, a))).2 = (e.length : Int) by show (a : Int) = _; omega), decide_eq_true ha, p_spec_l10Right k4 hf]
      exact ⟨t, by simp, fun _ => rfl⟩
    · rw [decide_eq_false (show ¬ (resS (some (t, a))).2 = (e.length : Int) by show ¬ (a : Int) = _; omega), decide_eq_false ha]
      exact ⟨t, by simp, fun h => by simp at h⟩
theorem nodeOk_cnt {n : DExpr} (h : nodeOk n = true) : 0 ≤ n.2.2.2 ∧ n.2.2.2 ≤ 10 := by
  unfold nodeOk at h
  simp only [Bool.and_eq_true, decide_eq_true_eq] at h
  obtain ⟨⟨⟨_, h3, h4⟩, _⟩, _⟩ := h
  have : 0 ≤ (kidsR n.1).1 ∧ (kidsR n.1).2 ≤ 10 := by
    unfold kidsR
    cases decide (n.1 = 1) || decide (n.1 = 3) with
    | true => simp
    | false =>
      cases decide (n.1 = 2) with
      | true => simp
      | false =>
        cases decide (n.1 = 4) || decide (n.1 = 5) || decide (n.1 = 6) || decide (n.1 = 7) || decide (n.1 = 20) || decide (n.1 = 21) with
        | true => simp
        | false => cases decide (n.1 = 10) <;> simp
  omega
theorem p_impl_GoodExpr_l {g : List (List Int)} (hg : g = varsL) {xs : List DExpr} {T : Bool} (hT : xs.all nodeOk = true → Option.bind (E_impl_yexprEnd xs 0 1) (fun y3 : Int => some (decide (y3 = (xs.length : Int)))) = some T) :
    ∀ (r : List DExpr) (k : Nat), (∀ n ∈ r, wfD TyExpr n ∧ n.2.1.length ≤ 2000000) → (r.all nodeOk = true → xs.all nodeOk = true) → P_impl_GoodExpr_0_2_1002_1010 g xs r k = some (r.all nodeOk && T)
  | [], k, _, h => by
    rw [P_impl_GoodExpr_0_2_1002_1010, cond_false, hT (h rfl)]; rfl
  | e :: r, k, hw, h => by
    rw [P_impl_GoodExpr_0_2_1002_1010, p_impl_ygoodExprNode hg (hw e (by simp)).1 (hw e (by simp)).2, Option.bind_some, List.all_cons]
    cases hn : nodeOk e with
    | false => simp [nat0]
    | true =>
      rw [p_impl_GoodExpr_l hg hT r (k + 1) (fun n h => hw n (by simp [h])) (fun h2 => h (by rw [List.all_cons, hn, h2]; rfl))]
      rfl
theorem resI_no {t : Dl10E} {a n : Nat} (h : a ≠ n) : ¬ resI (some (t, a)) = (n : Int) := by
  show ¬ (bif setOk t then (a : Int) else -1) = (n : Int)
  cases setOk t with
  | true => rw [cond_true]; omega
  | false => rw [cond_false]; omega
theorem resI_at {t : Dl10E} {n : Nat} : decide (resI (some (t, n)) = (n : Int)) = setOk t := by
  cases hs : setOk t with
  | true => exact decide_eq_true (show (bif setOk t then (n : Int) else -1) = (n : Int) by rw [hs]; rfl)
  | false => exact decide_eq_false (show ¬ (bif setOk t then (n : Int) else -1) = (n : Int) by rw [hs, cond_false]; omega)
theorem goodExpr_eq {e : List DExpr} : goodExpr e = (decide (1 ≤ e.length) && decide (e.length ≤ 60) && (e.all nodeOk && decide (resI (take1 e 12 0) = (e.length : Int)))) := by
  unfold goodExpr
  cases ht : take1 e 12 0 with
  | none => rw [decide_eq_false (show ¬ resI none = (e.length : Int) by show ¬ (-1 : Int) = _; omega)]; simp
  | some q =>
    obtain ⟨t, a⟩ := q
    obtain ⟨k1, k2, k3, k4⟩ := take1_flat _ _ _ _ ht
    dsimp only
    by_cases ha : a = e.length
    · subst ha
      rw [decide_eq_true rfl, right_flat t k4, k3, resI_at]
      simp only [Nat.sub_zero, List.drop_zero, List.take_length, Bool.true_and]
    · rw [decide_eq_false ha, decide_eq_false (resI_no ha)]
      simp
theorem p_impl_GoodExpr {g : List (List Int)} (hg : g = varsL) {e : List DExpr} (hw : exprIn e) (hl : e.length ≤ maxLen) : P_impl_GoodExpr g e = some (goodExpr e) := by
  rw [goodExpr_eq]
  unfold P_impl_GoodExpr
  by_cases h1 : 1 ≤ e.length
  case neg => rw [decide_eq_true (show (e.length : Int) = 0 by omega), decide_eq_false h1]; rfl
  by_cases h2 : e.length ≤ 60
  case neg => rw [decide_eq_false (show ¬ (e.length : Int) = 0 by omega), decide_eq_true (show 60 < (e.length : Int) by omega), decide_eq_true h1, decide_eq_false h2]; rfl
  rw [decide_eq_false (show ¬ (e.length : Int) = 0 by omega), decide_eq_false (show ¬ 60 < (e.length : Int) by omega), decide_eq_true h1, decide_eq_true h2, cond_false, cond_false, lenOk_pos hl,
    p_impl_GoodExpr_l hg (T := decide (resI (take1 e 12 0) = (e.length : Int))) (fun ha => by rw [p_impl_yexprEnd hl (fun n hn => nodeOk_cnt (List.all_eq_true.1 ha n hn)), Option.bind_some]) e 0 hw id]
  rfl
def varsW : List (List UInt8) := [[112, 114, 105, 110, 99, 105, 112, 97, 108], [97, 99, 116, 105, 111, 110], [114, 101, 115, 111, 117, 114, 99, 101], [99, 111, 110, 116, 101, 120, 116]]
theorem laid_impl_yvars {P : Program} {W : World} {t e : TypeId} {fuel : Nat} {cs : List Value} {ps : List MemPlace} (hu : P.underlying t = some (.slice e)) (he : tyOf P tyDepth e = some .str)
    (h : DataW.trod (fun _ => ()) P W 0 (fun _ => true) false fuel t cs = some (wordsD varsW, ps)) : ∃ es : List (List Int), RelD (snapAll W) (.list .str) es cs ∧ es = varsL :=
  ⟨_, words_rel hu he (by decide) h, rfl⟩
def goodHeadA (h : DHead) : Bool := !decide (h.1 = 5) && !decide (h.1 = 6) && goodHead h
theorem p_spec_l10GoodHead_a {h : DHead} (hw : wfD TyHead h) : P_spec_l10GoodHead h false = some (goodHeadA h) := by
  have h1 : wfD TyAtom h.2.1 := hw.2.1
  have h2 : wfD .str h.2.2 := hw.2.2
  simp only [P_spec_l10GoodHead, P_spec_l10GoodHead_1_6, p_spec_GoodAtom h1, p_spec_GoodName (wfS_len h2), Option.bind_some, goodHeadA, goodHead, goodRef, and_c, or_c, some_cond, some_dec, cond_false]
  clear hw h1 h2
  grind (splits := 30)
theorem p_impl_ygoodHead_a {h : DHead} (hw : wfD TyHead h) : P_impl_ygoodHead h true = some (goodHeadA h) := by
  have h1 : wfD TyAtom h.2.1 := hw.2.1
  have h2 : wfD .str h.2.2 := hw.2.2
  simp only [P_impl_ygoodHead, P_impl_ygoodHead_1_6, P_impl_ygoodHead_1_11, p_impl_ygoodRef h1, p_impl_GoodName (wfS_len h2), T_impl_yzeroAtom, Option.bind_some, goodHeadA, goodHead, and_c, or_c, some_cond, some_dec, Bool.not_true]
  clear hw h1 h2
  grind (splits := 30)
def goodPolicy (p : DPolicy) : Bool := goodId p.1 && goodHead p.2.2.1 && goodHeadA p.2.2.2.1 && goodHead p.2.2.2.2.1 && (decide ((p.2.2.2.2.2.length : Int) = 0) || goodExpr p.2.2.2.2.2)
theorem p_spec_GoodExpr {e : List DExpr} (hw : exprIn e) (hl : e.length ≤ maxLen) : P_spec_GoodExpr e = some (goodExpr e) := by
  obtain ⟨t, h, _⟩ := p_spec_l10Tree hw hl
  rw [P_spec_GoodExpr, h]; rfl
theorem p_spec_GoodPolicy {p : DPolicy} (hw : wfD TyPolicy p) (hx : exprIn p.2.2.2.2.2) : P_spec_GoodPolicy p = some (goodPolicy p) := by
  have w : wfD .str p.1 ∧ wfD .bool p.2.1 ∧ wfD TyHead p.2.2.1 ∧ wfD TyHead p.2.2.2.1 ∧ wfD TyHead p.2.2.2.2.1 ∧ wfD (.list TyExpr) p.2.2.2.2.2 := hw
  rw [P_spec_GoodPolicy, p_spec_l7Id (wfS_len w.1), p_spec_l10GoodHead w.2.2.1, p_spec_l10GoodHead_a w.2.2.2.1, p_spec_l10GoodHead w.2.2.2.2.1, p_spec_GoodExpr hx w.2.2.2.2.2.1]
  simp only [Option.bind_some, goodPolicy]
  cases goodId p.1 <;> cases goodHead p.2.2.1 <;> cases goodHeadA p.2.2.2.1 <;> cases goodHead p.2.2.2.2.1 <;> cases decide ((p.2.2.2.2.2.length : Int) = 0) <;> cases goodExpr p.2.2.2.2.2 <;> rfl
theorem p_impl_GoodPolicy {g : List (List Int)} (hg : g = varsL) {p : DPolicy} (hw : wfD TyPolicy p) (hx : exprIn p.2.2.2.2.2) : P_impl_GoodPolicy g p = some (goodPolicy p) := by
  have w : wfD .str p.1 ∧ wfD .bool p.2.1 ∧ wfD TyHead p.2.2.1 ∧ wfD TyHead p.2.2.2.1 ∧ wfD TyHead p.2.2.2.2.1 ∧ wfD (.list TyExpr) p.2.2.2.2.2 := hw
  rw [P_impl_GoodPolicy, p_impl_ygoodId (wfS_len w.1), p_impl_ygoodHead w.2.2.1, p_impl_ygoodHead_a w.2.2.2.1, p_impl_ygoodHead w.2.2.2.2.1, p_impl_GoodExpr hg hx w.2.2.2.2.2.1]
  simp only [Option.bind_some, goodPolicy]
  cases goodId p.1 <;> cases goodHead p.2.2.1 <;> cases goodHeadA p.2.2.2.1 <;> cases goodHead p.2.2.2.2.1 <;> cases decide ((p.2.2.2.2.2.length : Int) = 0) <;> cases goodExpr p.2.2.2.2.2 <;> rfl
theorem mem_sum {l : List Nat} {x : Nat} (h : x ∈ l) : x ≤ l.sum := by
  induction l with
  | nil => cases h
  | cons y r ih =>
    rw [List.sum_cons]
    rcases List.mem_cons.1 h with rfl | h
    · omega
    · have := ih h; omega
theorem expr_in {e : List DExpr} (hw : wfD (.list TyExpr) e) (h : Ty.size (.list TyExpr) e ≤ 1048576) : exprIn e := by
  intro n hn
  refine ⟨hw.2 n hn, ?_⟩
  have h1 : Ty.size (.list TyExpr) e = e.length + (e.map (Ty.size TyExpr)).sum := rfl
  have h2 := mem_sum (List.mem_map.2 ⟨n, hn, rfl⟩ : Ty.size TyExpr n ∈ e.map (Ty.size TyExpr))
  have h3 : n.2.1.length ≤ Ty.size TyExpr n := by
    have : Ty.size TyExpr n = 0 + (n.2.1.length + (Ty.size TyAtom n.2.2.1 + 0)) := rfl
    omega
  omega
theorem policy_in {p : DPolicy} (hw : wfD TyPolicy p) (h : Ty.size TyPolicy p ≤ 1048576) : exprIn p.2.2.2.2.2 := by
  have w : wfD .str p.1 ∧ wfD .bool p.2.1 ∧ wfD TyHead p.2.2.1 ∧ wfD TyHead p.2.2.2.1 ∧ wfD TyHead p.2.2.2.2.1 ∧ wfD (.list TyExpr) p.2.2.2.2.2 := hw
  refine expr_in w.2.2.2.2.2 ?_
  have : Ty.size TyPolicy p = p.1.length + (0 + (Ty.size TyHead p.2.2.1 + (Ty.size TyHead p.2.2.2.1 + (Ty.size TyHead p.2.2.2.2.1 + Ty.size (.list TyExpr) p.2.2.2.2.2)))) := rfl
  omega
theorem wrapK {k : Int} (h0 : 0 ≤ k) (h1 : k ≤ 2199023255552) : IntKind.wrap .i64 k = k := wrap64 (by omega)
theorem markTextK {k : Int} (h0 : 0 ≤ k) (h1 : k ≤ 1099511627776) : E_laws_markText k = some (mtext k) := p_markText k h0 (by unfold markTop; omega)
theorem bne_selfB (b : Bool) : (b != b) = false := by cases b <;> rfl
theorem foldM_len {α : Type} (f : α → Int → Int × α) : ∀ (l : List α) (k : Int), (foldM f l k).2.length = l.length
  | [], _ => rfl
  | x :: l, k => by rw [foldM]; simp [foldM_len f l]
theorem slotE_Expr (e : DExpr) : slotE TyExpr e = (1 + (1 + ((1 + (1 + (1 + 1))) + 1))) := by kernel_rfl
theorem markE_Expr (e : DExpr) (k : Int) : markE TyExpr e k = ((k + 1 + 1 + 1 + 1 + 1 + 1 + 1), ((IntKind.wrap .i64 k), (mtext (k + 1), (((IntKind.wrap .i64 (k + 1 + 1)), ((IntKind.wrap .i64 (k + 1 + 1 + 1)), (mtext (k + 1 + 1 + 1 + 1), mtext (k + 1 + 1 + 1 + 1 + 1)))), (IntKind.wrap .i64 (k + 1 + 1 + 1 + 1 + 1 + 1)))))) := by kernel_rfl
theorem p_heldExprS_l : ∀ (l : List DExpr) (k : Int), (∀ e ∈ l, wfD TyExpr e) → 0 ≤ k → k + ((l.map (slotE TyExpr)).sum : Nat) ≤ 1099511627776 → P_laws_heldExprS_0_2 (foldM (markE TyExpr) l k).2 k = some (foldM (markE TyExpr) l k).1
  | [], k, _, _, _ => rfl
  | e :: l, k, hl, h0, h1 => by
    rw [List.map_cons, List.sum_cons, slotE_Expr] at h1
    have hw := hl e (by simp)
    have ih := p_heldExprS_l l (k + 1 + 1 + 1 + 1 + 1 + 1 + 1) (fun p hp => hl p (by simp [hp])) (by omega) (by omega)
    rw [foldM, markE_Expr]
    simp only
    rw [P_laws_heldExprS_0_2]
    simp (disch := omega) only [wrapK, markTextK, Option.bind_some, decide_true, Bool.not_true, cond_false, bne_selfB]
    exact ih
theorem p_heldExprS {l : List DExpr} (hw : wfD (.list TyExpr) l) (k : Int) (h0 : 0 ≤ k) (h1 : k + slotS (.list TyExpr) l ≤ 1099511627776) : P_laws_heldExprS (markS (.list TyExpr) l k).2 k = some (markS (.list TyExpr) l k).1 := by
  have hlen : (markS (.list TyExpr) l k).2.length = l.length := foldM_len (markE TyExpr) l k
  rw [P_laws_heldExprS, lenOk_pos (by rw [hlen]; exact hw.1)]
  exact p_heldExprS_l l k hw.2 h0 h1
theorem slotS_policy (p : DPolicy) : slotS TyPolicy p = slotS (.list TyExpr) p.2.2.2.2.2 := by
  have : slotS TyPolicy p = 0 + (0 + ((0 + ((0 + (0 + (0 + 0))) + 0)) + ((0 + ((0 + (0 + (0 + 0))) + 0)) + ((0 + ((0 + (0 + (0 + 0))) + 0)) + slotS (.list TyExpr) p.2.2.2.2.2)))) := by kernel_rfl
  omega
theorem markS_policy (p : DPolicy) (k : Int) : (markS TyPolicy p k).1 = (markS (.list TyExpr) p.2.2.2.2.2 k).1 ∧ (markS TyPolicy p k).2.2.2.2.2.2 = (markS (.list TyExpr) p.2.2.2.2.2 k).2 := ⟨by kernel_rfl, by kernel_rfl⟩
theorem p_heldPolicy {q : DPolicy} {l : List DExpr} (hw : wfD (.list TyExpr) l) (k : Int) (h0 : 0 ≤ k) (h1 : k + slotS (.list TyExpr) l ≤ 1099511627776) (hq : q.2.2.2.2.2 = (markS (.list TyExpr) l k).2) : P_laws_heldPolicy q k = some (markS (.list TyExpr) l k).1 := by
  rw [P_laws_heldPolicy, hq, p_heldExprS hw k h0 h1]
  simp only [Option.bind_some]
  rw [decide_eq_false (by rw [markS_fst]; omega)]
  rfl
theorem p_impl_CloneExpr {l : List DExpr} (h : l.length ≤ 2000000) : P_impl_Expr l = some l := by
  rw [P_impl_Expr]
  have c1 : decide (((([] : List DExpr).length : Int) + (l.length : Int)) * 80 ≤ room) = true := decide_eq_true (by rw [room_eq]; simp only [List.length_nil]; omega)
  have c2 : decide ((([] : List DExpr).length : Int) + (l.length : Int) ≤ room) = true := decide_eq_true (by rw [room_eq]; simp only [List.length_nil]; omega)
  rw [c1, c2]
  cases l with
  | nil => simp [both]
  | cons e l => rw [decide_eq_true (show 0 < (e :: l).length by simp)]; rfl
def noPol : DPolicy := (([] : List Int), false, (0, (0, 0, ([] : List Int), ([] : List Int)), ([] : List Int)), (0, (0, 0, ([] : List Int), ([] : List Int)), ([] : List Int)), (0, (0, 0, ([] : List Int), ([] : List Int)), ([] : List Int)), [])
noncomputable def linkP (p : DPolicy) (i : List Int) (a b : DAtom) : DPolicy := (i, p.2.1, T_spec_l10Link p.2.2.1 a, p.2.2.2.1, T_spec_l10Link p.2.2.2.2.1 b, p.2.2.2.2.2)
noncomputable def linkOk (p : DPolicy) (i : List Int) (a b : DAtom) : Bool := goodPolicy p && (goodId i && (goodRef a && (goodRef b && (T_spec_l10Slot p.2.2.1 || T_spec_l10Slot p.2.2.2.2.1))))
noncomputable def linkR (p : DPolicy) (i : List Int) (a b : DAtom) : DPolicy × Bool := bif linkOk p i a b then (linkP p i a b, true) else (noPol, false)
theorem p_spec_LinkPolicy {p : DPolicy} {i : List Int} {a b : DAtom} (hp : wfD TyPolicy p) (hx : exprIn p.2.2.2.2.2) (hi : wfD .str i) (ha : wfD TyAtom a) (hb : wfD TyAtom b) (hl : p.2.2.2.2.2.length ≤ 2000000) : P_spec_LinkPolicy p i a b = some (linkR p i a b) := by
  have c1 : decide (((p.2.2.2.2.2.length : Int)) * 80 ≤ room) = true := decide_eq_true (by rw [room_eq]; omega)
  have c2 : decide ((p.2.2.2.2.2.length : Int) ≤ room) = true := decide_eq_true (by rw [room_eq]; omega)
  have e : P_spec_LinkPolicy_1_3 i p a b = some (linkP p i a b, true) := by rw [P_spec_LinkPolicy_1_3, c1, c2]; rfl
  rw [P_spec_LinkPolicy, p_spec_GoodPolicy hp hx, p_spec_l7Id (wfS_len hi), p_spec_GoodAtom ha, p_spec_GoodAtom hb, e]
  simp only [Option.bind_some]
  unfold linkR linkOk goodRef
  cases goodPolicy p <;> cases goodId i <;> cases decide (a.1 = 4) <;> cases decide (b.1 = 4) <;> cases goodAtom a <;> cases goodAtom b <;> cases T_spec_l10Slot p.2.2.1 <;> cases T_spec_l10Slot p.2.2.2.2.1 <;> rfl
theorem p_impl_LinkPolicy {g : List (List Int)} (hg : g = varsL) {p : DPolicy} {i : List Int} {a b : DAtom} (hp : wfD TyPolicy p) (hx : exprIn p.2.2.2.2.2) (hi : wfD .str i) (ha : wfD TyAtom a) (hb : wfD TyAtom b) (hl : p.2.2.2.2.2.length ≤ 2000000) : P_impl_LinkPolicy g p i a b = some (linkR p i a b) := by
  have e : P_impl_LinkPolicy_1_4 g i p a b = some (linkP p i a b, true) := by
    rw [P_impl_LinkPolicy_1_4, p_impl_CloneExpr hl]
    rfl
  rw [P_impl_LinkPolicy, p_impl_GoodPolicy hg hp hx, p_impl_ygoodId (wfS_len hi), p_impl_ygoodRef ha, p_impl_ygoodRef hb, e]
  simp only [Option.bind_some]
  unfold linkR linkOk T_spec_l10Slot
  cases goodPolicy p <;> cases goodId i <;> cases goodRef a <;> cases goodRef b <;> cases decide (p.2.2.1.1 = 5) <;> cases decide (p.2.2.1.1 = 6) <;> cases decide (p.2.2.2.2.1.1 = 5) <;> cases decide (p.2.2.2.2.1.1 = 6) <;> rfl
theorem wf_linkHead {h : DHead} {a : DAtom} (hh : wfD TyHead h) (ha : wfD TyAtom a) : wfD TyHead (T_spec_l10Link h a) := by
  unfold T_spec_l10Link
  have z : wfD .str ([] : List Int) := ⟨by simp, by simp⟩
  cases decide (h.1 = 5) with
  | true => exact ⟨(by decide : inK .i64 2 = true), ha, z⟩
  | false =>
    cases decide (h.1 = 6) with
    | true => exact ⟨(by decide : inK .i64 3 = true), ha, z⟩
    | false => exact hh
theorem linkR_in {p : DPolicy} {i : List Int} {a b : DAtom} (hp : wfD TyPolicy p) (hi : wfD .str i) (ha : wfD TyAtom a) (hb : wfD TyAtom b) : wfD TyPolicy (linkR p i a b).1 ∧ ((linkR p i a b).1.2.2.2.2.2 = p.2.2.2.2.2 ∨ (linkR p i a b).1.2.2.2.2.2 = []) := by
  have w : wfD .str p.1 ∧ wfD .bool p.2.1 ∧ wfD TyHead p.2.2.1 ∧ wfD TyHead p.2.2.2.1 ∧ wfD TyHead p.2.2.2.2.1 ∧ wfD (.list TyExpr) p.2.2.2.2.2 := hp
  unfold linkR
  cases linkOk p i a b with
  | true => exact ⟨⟨hi, w.2.1, wf_linkHead w.2.2.1 ha, w.2.2.2.1, wf_linkHead w.2.2.2.2.1 hb, w.2.2.2.2.2⟩, .inl rfl⟩
  | false =>
    have z : wfD .str ([] : List Int) := ⟨by simp, by simp⟩
    have hd : wfD TyHead (0, (0, 0, ([] : List Int), ([] : List Int)), ([] : List Int)) := ⟨(by decide : inK .i64 0 = true), ⟨(by decide : inK .i64 0 = true), (by decide : inK .i64 0 = true), z, z⟩, z⟩
    exact ⟨⟨z, trivial, hd, hd, hd, ⟨Nat.zero_le _, fun x hx => (nomatch hx)⟩⟩, .inr rfl⟩
theorem law_LinkPolicy (g0 : List (List Int)) (hg0 : g0 = varsL) (a0 : DPolicy) (a1 : List Int) (a2 a3 : DAtom) (h0 : wfD TyPolicy a0) (h1 : wfD .str a1) (h2 : wfD TyAtom a2) (h3 : wfD TyAtom a3) : P_laws_FnExactLinkPolicy g0 a0 a1 a2 a3 = some true := by
  rw [P_laws_FnExactLinkPolicy]
  cases d9 : decide ((1048576 : Int) < (a1.length : Int)) with
  | true => rfl
  | false =>
  rw [szC_some h0 (by omega) (by omega)]
  simp only [Option.bind_some, cond_false]
  cases d0 : decide (lessZ 1048576 (Ty.size TyPolicy a0) < 0) with
  | true => rfl
  | false =>
  obtain ⟨b1, b2, b3⟩ := bud_of d0
  rw [szC_some h2 b2 (by omega)]
  simp only [Option.bind_some, cond_false]
  cases d1 : decide (lessZ (lessZ 1048576 (Ty.size TyPolicy a0)) (Ty.size TyAtom a2) < 0) with
  | true => rfl
  | false =>
  obtain ⟨c1, c2, c3⟩ := bud_of d1
  rw [szC_some h3 c2 (by omega)]
  simp only [Option.bind_some, cond_false]
  cases d2 : decide (lessZ (lessZ (lessZ 1048576 (Ty.size TyPolicy a0)) (Ty.size TyAtom a2)) (Ty.size TyAtom a3) < 0) with
  | true => rfl
  | false =>
  obtain ⟨e1, e2, e3⟩ := bud_of d2
  have hx := policy_in h0 (by omega)
  have w : wfD .str a0.1 ∧ wfD .bool a0.2.1 ∧ wfD TyHead a0.2.2.1 ∧ wfD TyHead a0.2.2.2.1 ∧ wfD TyHead a0.2.2.2.2.1 ∧ wfD (.list TyExpr) a0.2.2.2.2.2 := h0
  have k3 : Ty.size TyPolicy a0 = a0.1.length + (0 + (Ty.size TyHead a0.2.2.1 + (Ty.size TyHead a0.2.2.2.1 + (Ty.size TyHead a0.2.2.2.2.1 + Ty.size (.list TyExpr) a0.2.2.2.2.2)))) := rfl
  have k4 : Ty.size (.list TyExpr) a0.2.2.2.2.2 = a0.2.2.2.2.2.length + (a0.2.2.2.2.2.map (Ty.size TyExpr)).sum := rfl
  have hl : a0.2.2.2.2.2.length ≤ 2000000 := by omega
  have s1 := p_spec_LinkPolicy h0 hx h1 h2 h3 hl
  have s2 := p_impl_LinkPolicy hg0 h0 hx h1 h2 h3 hl
  obtain ⟨hr, hr2⟩ := linkR_in h0 h1 h2 h3
  have wr : wfD .str (linkR a0 a1 a2 a3).1.1 ∧ wfD .bool (linkR a0 a1 a2 a3).1.2.1 ∧ wfD TyHead (linkR a0 a1 a2 a3).1.2.2.1 ∧ wfD TyHead (linkR a0 a1 a2 a3).1.2.2.2.1 ∧ wfD TyHead (linkR a0 a1 a2 a3).1.2.2.2.2.1 ∧ wfD (.list TyExpr) (linkR a0 a1 a2 a3).1.2.2.2.2.2 := hr
  have m0 := slotS_size (t := .list TyExpr) (x := a0.2.2.2.2.2) (n := 1048576) (by omega) (by decide)
  have m1 := slotS_policy a0
  have m2 := slotS_policy (linkR a0 a1 a2 a3).1
  have m3 : slotS (.list TyExpr) (linkR a0 a1 a2 a3).1.2.2.2.2.2 ≤ 100000 * 1048576 := by
    rcases hr2 with e | e
    · rw [e]; exact m0
    · rw [e]; exact Nat.zero_le _
  have k0 := markS_fst TyPolicy a0 1
  have k1 := markS_fst TyPolicy (linkR a0 a1 a2 a3).1 1
  obtain ⟨q1, q2⟩ := markS_policy (linkR a0 a1 a2 a3).1 1
  have hk0 : ¬ (markS TyPolicy a0 1).1 < 0 := by omega
  have hk1 : ¬ (markS TyPolicy (linkR a0 a1 a2 a3).1 1).1 < 0 := by omega
  have hh := p_heldPolicy (q := ((linkR a0 a1 a2 a3).1.1, (linkR a0 a1 a2 a3).1.2.1, (linkR a0 a1 a2 a3).1.2.2.1, (linkR a0 a1 a2 a3).1.2.2.2.1, (linkR a0 a1 a2 a3).1.2.2.2.2.1, (markS TyPolicy (linkR a0 a1 a2 a3).1 1).2.2.2.2.2.2)) wr.2.2.2.2.2 1 (by omega) (by omega) q2
  rw [← q1] at hh
  simp only [cond_false, toC_some h0 (by omega), toC_some h2 (by omega), toC_some h3 (by omega), Option.bind_some, s1, s2, eqC_some h0, eqC_some hr, Bool.not_true, bne_selfB,
    markC_some (t := TyPolicy) (x := a0) (k := 1) (by omega) (by unfold markTop; omega), decide_eq_false hk0, markC_some (t := TyPolicy) (x := (linkR a0 a1 a2 a3).1) (k := 1) (by omega) (by unfold markTop; omega), hh, decide_eq_false hk1, decide_true]

end
end Go.Ab
