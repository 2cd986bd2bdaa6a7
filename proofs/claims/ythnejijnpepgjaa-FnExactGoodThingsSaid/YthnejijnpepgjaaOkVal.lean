/-
  What the functions come to, in plain words.
-/
import Derived.Test.YthnejijnpepgjaaGenR2
import Derived.Test.YthnejijnpepgjaaPlain1
namespace Go.Ab
open Go.Proofs
theorem p_spec_l1Printed_l (s : List Int) : P_spec_l1Printed_0_2 s = some (printed s) := by
  induction s with
  | nil => rfl
  | cons e r ih =>
    simp only [P_spec_l1Printed_0_2, ih, printed, List.all_cons, isPrint]
    grind
theorem p_spec_l1Printed {s : List Int} (h : s.length ≤ maxLen) : P_spec_l1Printed s = some (printed s) := by
  rw [P_spec_l1Printed, lenOk_pos h, p_spec_l1Printed_l]
theorem p_impl_yprinted_l (s : List Int) : P_impl_yprinted_0_4 s = some (printed s) := by
  induction s with
  | nil => rfl
  | cons e r ih =>
    simp only [P_impl_yprinted_0_4, ih, printed, List.all_cons, isPrint]
    grind
theorem p_impl_yprinted {s : List Int} (lo hi : Int) (h : s.length ≤ maxLen) : P_impl_yprinted s lo hi = some (printedIn s lo hi) := by
  rw [P_impl_yprinted, lenOk_pos h, p_impl_yprinted_l, printedIn, printed]
  grind
theorem t_spec_l1Digit (x : Int) : T_spec_l1Digit x = isDigit x := by unfold T_spec_l1Digit isDigit; grind
theorem t_impl_ydigit (x : Int) : T_impl_ydigit x = isDigit x := by unfold T_impl_ydigit isDigit; grind
theorem t_spec_l1Letter (x : Int) : T_spec_l1Letter x = isLetter x := by unfold T_spec_l1Letter isLetter; grind
theorem t_impl_yletter (x : Int) : T_impl_yletter x = isLetter x := by unfold T_impl_yletter isLetter; grind
theorem t_impl_ywordByte (x : Int) : T_impl_ywordByte x = isWord x := by unfold T_impl_ywordByte isWord; rw [t_impl_yletter, t_impl_ydigit]; grind
theorem p_spec_GoodName_l (s : List Int) : P_spec_GoodName_0_4 s = some (s.all isWord) := by
  induction s with
  | nil => rfl
  | cons e r ih =>
    simp only [P_spec_GoodName_0_4, ih, List.all_cons, isWord, t_spec_l1Letter, t_spec_l1Digit]
    grind
theorem p_spec_GoodName {s : List Int} (h : s.length ≤ maxLen) : P_spec_GoodName s = some (goodName s) := by
  rw [P_spec_GoodName, lenOk_pos h, p_spec_GoodName_l, goodName]
  simp only [t_spec_l1Digit, inB]
  grind
theorem p_impl_GoodName_l (s : List Int) : P_impl_GoodName_0_4 s = some (s.all isWord) := by
  induction s with
  | nil => rfl
  | cons e r ih =>
    simp only [P_impl_GoodName_0_4, ih, List.all_cons, t_impl_ywordByte]
    grind
theorem p_impl_GoodName {s : List Int} (h : s.length ≤ maxLen) : P_impl_GoodName s = some (goodName s) := by
  rw [P_impl_GoodName, lenOk_pos h, p_impl_GoodName_l, goodName]
  simp only [t_impl_ydigit, inB]
  cases s with
  | nil => rfl
  | cons x s => grind
theorem p_spec_l1Pow2_l (x : Int) (hx : x ≤ 62) : ∀ (m : Nat) (k : Int), 0 ≤ k → k ≤ x → x - k < m → P_spec_l1Pow2_0_3 x m (2 ^ k.toNat) k = some (2 ^ x.toNat) := by
  intro m
  induction m with
  | zero => intro k _ _ h; omega
  | succ m ih =>
    intro k h0 hk hm
    rw [P_spec_l1Pow2_0_3]
    by_cases h : k < x
    · have e : (2 : Int) ^ k.toNat * 2 = 2 ^ (k + 1).toNat := by
        rw [show (k + 1).toNat = k.toNat + 1 by omega, Int.pow_succ]
      have hb : (2 : Int) ^ (k + 1).toNat ≤ 2 ^ 62 := by
        have := Nat.pow_le_pow_right (n := 2) (by omega) (show (k + 1).toNat ≤ 62 by omega)
        exact_mod_cast this
      have hp : (0 : Int) < 2 ^ (k + 1).toNat := Int.pow_pos (by omega)
      rw [decide_eq_true h, e, wrapU (by omega), wrapU (by omega)]
      exact ih _ (by omega) (by omega) (by omega)
    · have : k = x := by omega
      subst this
      rw [decide_eq_false h]; rfl
theorem p_spec_l1Pow2 {x : Int} (h0 : 0 ≤ x) (hx : x ≤ 62) : E_spec_l1Pow2 x = some (pow2 x) := by
  refine evOpt_of ⟨x.toNat + 1, fun m hm => ?_⟩
  have := p_spec_l1Pow2_l x hx m 0 (by omega) h0 (by omega)
  exact this
theorem p_spec_l1Block {a : Atm} (h0 : 0 ≤ a.2.1) (h1 : a.2.1 ≤ 9223372036854775807) (h : a.2.1.tmod 64 ≤ 32) : P_spec_l1Block a = some (a.2.1.tdiv 64, pow2 (32 - a.2.1.tmod 64)) := by
  have hm := Int.tmod_nonneg 64 h0
  have hd : a.2.1.tdiv 64 = a.2.1 / 64 := Int.tdiv_eq_ediv_of_nonneg h0
  rw [P_spec_l1Block, wrapU (by omega), p_spec_l1Pow2 (by omega) (by omega), wrapU (by omega)]
  rfl
theorem p_spec_GoodAtom {a : Atm} (hw : wfD TyAtom a) : P_spec_GoodAtom a = some (goodAtom a) := by
  have hw2 : inK .i64 a.1 = true ∧ inK .i64 a.2.1 = true ∧ wfD .str a.2.2.1 ∧ wfD .str a.2.2.2 := hw
  have h1 := wfS_len hw2.2.2.1
  have h2 := wfS_len hw2.2.2.2
  have hn := hw2.2.1
  rw [inK_iff, min_i64, max_i64] at hn
  have hp : E_spec_l1Pow2 32 = some 4294967296 := p_spec_l1Pow2 (x := 32) (by omega) (by omega)
  have hb := p_spec_l1Block (a := a)
  have hd : 0 ≤ a.2.1 → a.2.1.tdiv 64 = a.2.1 / 64 := fun h => Int.tdiv_eq_ediv_of_nonneg h
  have hw1 : IntKind.wrap .i64 (4294967296 - 1) = 4294967295 := wrapU (by omega)
  have hpos : pow2 (32 - a.2.1.tmod 64) ≠ 0 := by unfold pow2; exact Int.ne_of_gt (Int.pow_pos (by omega))
  have hwr : 0 ≤ a.2.1 → IntKind.wrap .i64 (a.2.1.tdiv 64) = a.2.1.tdiv 64 := fun h => wrapU (by have := hd h; omega)
  simp only [P_spec_GoodAtom, P_spec_GoodAtom_1_3, P_spec_GoodAtom_1_8, p_spec_l1Printed h1, p_spec_GoodName h2, hp, Option.bind_some, hw1]
  unfold goodAtom printedIn printed
  by_cases k6 : a.1 = 6
  · simp only [k6]
    by_cases h0 : a.2.1 < 0
    · have : ¬ 0 ≤ a.2.1 := by omega
      grind
    · have h0' : 0 ≤ a.2.1 := by omega
      rw [hwr h0']
      by_cases h32 : a.2.1.tmod 64 ≤ 32
      · rw [hb h0' hn.2 h32]
        simp only [Option.bind_some]
        grind
      · grind
  · clear hb hd hpos hwr hp hw hw2
    simp only [k6, decide_false, cond_false, and_c, or_c, some_cond, some_dec]
    grind (splits := 30)
theorem p_impl_GoodAtom {a : Atm} (hw : wfD TyAtom a) : P_impl_GoodAtom a = some (goodAtom a) := by
  have hw2 : inK .i64 a.1 = true ∧ inK .i64 a.2.1 = true ∧ wfD .str a.2.2.1 ∧ wfD .str a.2.2.2 := hw
  have h1 := wfS_len hw2.2.2.1
  have h2 := wfS_len hw2.2.2.2
  have hn := hw2.2.1
  rw [inK_iff, min_i64, max_i64] at hn
  have hd : 0 ≤ a.2.1 → a.2.1.tdiv 64 = a.2.1 / 64 := fun h => Int.tdiv_eq_ediv_of_nonneg h
  have hwr : 0 ≤ a.2.1 → IntKind.wrap .i64 (a.2.1.tdiv 64) = a.2.1.tdiv 64 := fun h => wrapU (by have := hd h; omega)
  have hmm : 0 ≤ a.2.1 → 0 ≤ a.2.1.tmod 64 := fun h => Int.tmod_nonneg 64 h
  simp only [P_impl_GoodAtom, P_impl_GoodAtom_1_2, P_impl_GoodAtom_1_7, p_impl_yprinted _ _ h1, p_impl_GoodName h2, Option.bind_some]
  unfold goodAtom
  by_cases k6 : a.1 = 6
  · simp only [k6]
    by_cases h0 : a.2.1 < 0
    · have : ¬ 0 ≤ a.2.1 := by omega
      grind
    · have h0' : 0 ≤ a.2.1 := by omega
      have hm0 := hmm h0'
      rw [hwr h0']
      by_cases h32 : a.2.1.tmod 64 ≤ 32
      · have hws : IntKind.wrap .i64 (32 - a.2.1.tmod 64) = 32 - a.2.1.tmod 64 := wrapU (by omega)
        have hmn : min (32 - a.2.1.tmod 64).toNat 64 = (32 - a.2.1.tmod 64).toNat := by omega
        have hb : (2 : Int) ^ (32 - a.2.1.tmod 64).toNat ≤ 2 ^ 32 := by
          have := Nat.pow_le_pow_right (n := 2) (by omega) (show (32 - a.2.1.tmod 64).toNat ≤ 32 by omega)
          exact_mod_cast this
        have hp : (0 : Int) < 2 ^ (32 - a.2.1.tmod 64).toNat := Int.pow_pos (by omega)
        rw [hws, hmn, Int.one_mul, wrapU (by omega)]
        unfold pow2
        have hp2 : (2 : Int) ^ (32 - a.2.1.tmod 64).toNat ≠ 0 := by omega
        generalize (2 : Int) ^ (32 - a.2.1.tmod 64).toNat = q at *
        grind
      · grind
  · grind
theorem t_spec_l1CmpNum (a b : Int) : T_spec_l1CmpNum a b = cmpNum a b := by unfold T_spec_l1CmpNum cmpNum; rfl
theorem p_spec_l1CmpText_l (a b : List Int) (ha : bytesL a) (hb : bytesL b) : ∀ (r : List Int) (k : Nat), r = a.drop k → k ≤ a.length → k ≤ b.length → P_spec_l1CmpText_0_2 a b r k = some (cmpText r (b.drop k)) := by
  intro r
  induction r with
  | nil =>
    intro k hr hk hkb
    have h1 := drop_nil hr
    rw [P_spec_l1CmpText_0_2, t_spec_l1CmpNum, cmpText_nil, List.length_drop]
    unfold cmpNum
    grind
  | cons e r ih =>
    intro k hr hk hkb
    obtain ⟨h1, _, h2⟩ := drop_cons (d := 0) hr
    have h3 : (e :: r).length = a.length - k := by rw [hr, List.length_drop]
    rw [P_spec_l1CmpText_0_2]
    by_cases h : k < b.length
    · have hg := List.getElem?_eq_getElem h
      have he := ha e (List.mem_of_mem_drop (hr ▸ List.mem_cons_self))
      have hbk := hb b[k] (List.getElem_mem h)
      rw [rd_nat hg, inB_nat2 h, decide_eq_true (by omega), List.drop_eq_getElem_cons h, wrapU (by omega), wrapU (by omega), t_spec_l1CmpNum, ih (k + 1) h2 (by omega) (by omega)]
      simp only [cmpText, cond_true]
      by_cases hc : e = b[k]
      · simp [hc]
      · simp [hc]
    · rw [decide_eq_false (by omega), List.drop_eq_nil_of_le (by omega), cmpText_nil2, h3]
      simp only [cond_false, t_spec_l1CmpNum, cmpNum]
      grind
theorem p_spec_l1CmpText {a b : List Int} (ha : wfD .str a) (hb : wfD .str b) : P_spec_l1CmpText a b = some (cmpStr a b) := by
  rw [P_spec_l1CmpText, lenOk_pos (wfS_len ha), p_spec_l1CmpText_l a b (wfS_bytes ha) (wfS_bytes hb) a 0 rfl (by omega) (by omega), List.drop_zero, cmpText_str]
theorem p_spec_l1Cmp {a b : Atm} (ha : wfD TyAtom a) (hb : wfD TyAtom b) : P_spec_l1Cmp a b = some (cmpAtom a b) := by
  have ha2 : inK .i64 a.1 = true ∧ inK .i64 a.2.1 = true ∧ wfD .str a.2.2.1 ∧ wfD .str a.2.2.2 := ha
  have hb2 : inK .i64 b.1 = true ∧ inK .i64 b.2.1 = true ∧ wfD .str b.2.2.1 ∧ wfD .str b.2.2.2 := hb
  rw [P_spec_l1Cmp, p_spec_l1CmpText ha2.2.2.1 hb2.2.2.1, p_spec_l1CmpText ha2.2.2.2 hb2.2.2.2]
  simp only [t_spec_l1CmpNum, cmpAtom, Option.bind_some]
  grind
theorem t_cmp_Compare_int (a b : Int) : T_cmp_Compare_int a b = cmpNum a b := by
  unfold T_cmp_Compare_int T_cmp_isNaN_int cmpNum
  simp
theorem t_cmp_Compare_string (a b : List Int) : T_cmp_Compare_string a b = cmpStr a b := by
  unfold T_cmp_Compare_string T_cmp_isNaN_string cmpStr
  simp
theorem p_impl_ycmpAtom (a b : Atm) : P_impl_ycmpAtom a b = some (cmpAtom a b) := by
  rw [P_impl_ycmpAtom, P_cmp_Or_int, lenOk_pos (by simp [maxLen])]
  simp only [P_cmp_Or_int_0_3, t_cmp_Compare_int, t_cmp_Compare_string, cmpAtom]
  have h := cmpStr_zero a.2.2.1 b.2.2.1
  grind
theorem p_impl_ygoodRef {a : Atm} (hw : wfD TyAtom a) : P_impl_ygoodRef a = some (goodRef a) := by
  rw [P_impl_ygoodRef, p_impl_GoodAtom hw, goodRef]; grind
theorem p_spec_l11Ref {a : Atm} (hw : wfD TyAtom a) : P_spec_l11Ref a = some (goodRef a) := by
  rw [P_spec_l11Ref, p_spec_GoodAtom hw, goodRef]; grind
theorem p_impl_yallNames_l : ∀ (l : List (List Int)) (k : Nat), (∀ s ∈ l, s.length ≤ maxLen) → P_impl_yallNames_0_2_1002_1001 l k = some (l.all goodName)
  | [], k, _ => rfl
  | s :: l, k, h => by
    rw [P_impl_yallNames_0_2_1002_1001, p_impl_GoodName (h s (by simp)), p_impl_yallNames_l l (k + 1) (fun x hx => h x (by simp [hx])), List.all_cons]
    simp only [Option.bind_some, nat0]
    grind
theorem p_impl_yallNames {l : List (List Int)} (h : wfD (.list .str) l) : P_impl_yallNames l = some (l.all goodName) := by
  rw [P_impl_yallNames, lenOk_pos h.1, p_impl_yallNames_l l 0 fun s hs => wfS_len (h.2 s hs)]
theorem p_impl_yrising_l (xs : List (List Int)) (hl : xs.length ≤ maxLen) : ∀ (r : List (List Int)) (k : Nat), r = xs.drop k → P_impl_yrising_0_2 xs r k = some (risingFrom lessI (before xs k) r)
  | [], k, _ => by rw [risingFrom_nil]; rfl
  | e :: r, k, h => by
    obtain ⟨h1, h2, h3, h4, h5⟩ := step_prev (d := Ty.dflt .str) hl h
    rw [P_impl_yrising_0_2, p_impl_yrising_l xs hl r (k + 1) h1, h2, risingFrom_cons]
    rcases h5 with rfl | ⟨h5, h6, h7, _⟩
    · simp [before]
    · rw [h6, h7]; grind
theorem p_impl_yrising {l : List (List Int)} (h : l.length ≤ maxLen) : P_impl_yrising l = some (risingBy lessI l) := by
  rw [P_impl_yrising, lenOk_pos h, p_impl_yrising_l l h l 0 rfl]; rfl
theorem t_impl_yzeroAtom (a : Atm) : T_impl_yzeroAtom a = decide (a = (0, 0, [], [])) := by unfold T_impl_yzeroAtom; exact decide_eq_decide.2 Iff.rfl
theorem p_impl_yrisingAtoms_l (xs : List Atm) (hw : wfD (.list TyAtom) xs) : ∀ (r : List Atm) (k : Nat), r = xs.drop k → P_impl_yrisingAtoms_0_2 xs r k = some (r.all goodAtom && risingFrom lessAtom (before xs k) r)
  | [], k, _ => by rw [risingFrom_nil]; rfl
  | e :: r, k, h => by
    obtain ⟨h1, h2, h3, h4, h5⟩ := step_prev (d := Ty.dflt TyAtom) hw.1 h
    rw [P_impl_yrisingAtoms_0_2, p_impl_GoodAtom (hw.2 e h4), p_impl_yrisingAtoms_l xs hw r (k + 1) h1, h2, risingFrom_cons]
    simp only [Option.bind_some, p_impl_ycmpAtom, cmpAtom_ge, List.all_cons]
    rcases h5 with rfl | ⟨h5, h6, h7, _⟩
    · simp [before]; grind
    · rw [h6, h7]; grind
theorem p_impl_yrisingAtoms {l : List Atm} (h : wfD (.list TyAtom) l) : P_impl_yrisingAtoms l = some (l.all goodAtom && risingBy lessAtom l) := by
  rw [P_impl_yrisingAtoms, lenOk_pos h.1, p_impl_yrisingAtoms_l l h l 0 rfl]; rfl
theorem p_impl_GoodValue_l : ∀ (l : List Atm) (k : Nat), (∀ a ∈ l, wfD TyAtom a) → P_impl_GoodValue_0_2_1002_7031 l k = some (l.all goodAtom)
  | [], k, _ => rfl
  | s :: l, k, h => by
    rw [P_impl_GoodValue_0_2_1002_7031, p_impl_GoodAtom (h s (by simp)), p_impl_GoodValue_l l (k + 1) (fun x hx => h x (by simp [hx])), List.all_cons]
    simp only [Option.bind_some, nat0]
    grind
theorem p_impl_GoodValue {v : Val} (hw : wfD TyValue v) : P_impl_GoodValue v = some (goodValue v) := by
  have hw2 : inK .i64 v.1 = true ∧ wfD TyAtom v.2.1 ∧ wfD (.list TyAtom) v.2.2.1 ∧ wfD (.list .str) v.2.2.2 := hw
  rw [P_impl_GoodValue, p_impl_GoodAtom hw2.2.1, p_impl_yrisingAtoms hw2.2.2.1, p_impl_yallNames hw2.2.2.2, p_impl_yrising hw2.2.2.2.1, lenOk_pos hw2.2.2.1.1, p_impl_GoodValue_l _ _ hw2.2.2.1.2]
  simp only [t_impl_yzeroAtom, Option.bind_some, goodValue, and_c, or_c, some_cond, some_dec]
  clear hw hw2
  grind (splits := 30)
theorem p_spec_GoodValue_m (v : Val) (hw : wfD (.list .str) v.2.2.2) : ∀ (r : List (List Int)) (k : Nat), r = v.2.2.2.drop k → P_spec_GoodValue_0_19 v r k = some (r.all goodName && risingFrom lessI (before v.2.2.2 k) r)
  | [], k, _ => by rw [risingFrom_nil]; rfl
  | e :: r, k, h => by
    obtain ⟨h1, h2, h3, h4, h5⟩ := step_prev (d := Ty.dflt .str) hw.1 h
    rw [P_spec_GoodValue_0_19, p_spec_GoodName (wfS_len (hw.2 e h4)), p_spec_GoodValue_m v hw r (k + 1) h1, h2, risingFrom_cons]
    simp only [Option.bind_some, List.all_cons]
    rcases h5 with rfl | ⟨h5, h6, h7, h8⟩
    · simp [before]; grind
    · rw [h6, h7, p_spec_l1CmpText (hw.2 _ h8) (hw.2 _ h4)]
      simp only [Option.bind_some, cmpStr_ge]
      grind
theorem p_spec_GoodValue_l (v : Val) (hw : wfD (.list TyAtom) v.2.2.1) (hn : wfD (.list .str) v.2.2.2) : ∀ (r : List Atm) (k : Nat), r = v.2.2.1.drop k → P_spec_GoodValue_0_9 v r k =
    some (r.all goodAtom && (bif decide (v.1 = 2) then risingFrom lessAtom (before v.2.2.1 k) r && decide (v.2.2.2.length = 0) else decide (v.2.2.2.length = v.2.2.1.length) && v.2.2.2.all goodName && risingBy lessI v.2.2.2))
  | [], k, _ => by
    rw [P_spec_GoodValue_0_9, risingFrom_nil, lenOk_pos hn.1, p_spec_GoodValue_m v hn v.2.2.2 0 rfl, risingBy, before_zero]
    simp only [List.all_nil, and_c, or_c, some_cond, some_dec]
    grind (splits := 30)
  | e :: r, k, h => by
    obtain ⟨h1, h2, h3, h4, h5⟩ := step_prev (d := Ty.dflt TyAtom) hw.1 h
    rw [P_spec_GoodValue_0_9, p_spec_GoodAtom (hw.2 e h4), p_spec_GoodValue_l v hw hn r (k + 1) h1, h2, risingFrom_cons]
    simp only [Option.bind_some, List.all_cons]
    rcases h5 with rfl | ⟨h5, h6, h7, h8⟩
    · simp [before]; grind
    · rw [h6, h7, p_spec_l1Cmp (hw.2 _ h8) (hw.2 _ h4)]
      simp only [Option.bind_some, cmpAtom_ge]
      grind
theorem p_spec_GoodValue {v : Val} (hw : wfD TyValue v) : P_spec_GoodValue v = some (goodValue v) := by
  have hw2 : inK .i64 v.1 = true ∧ wfD TyAtom v.2.1 ∧ wfD (.list TyAtom) v.2.2.1 ∧ wfD (.list .str) v.2.2.2 := hw
  rw [P_spec_GoodValue]
  simp only [P_spec_GoodValue_1_6]
  rw [p_spec_GoodAtom hw2.2.1, lenOk_pos hw2.2.2.1.1, p_spec_GoodValue_l v hw2.2.2.1 hw2.2.2.2 v.2.2.1 0 rfl, before_zero]
  have e : (@decide (v.2.1 = (0, 0, ([] : List Int), ([] : List Int))) (Ty.decEq TyAtom v.2.1 (0, 0, ([] : List Int), ([] : List Int)))) = decide (v.2.1 = (0, 0, [], [])) := decide_eq_decide.2 Iff.rfl
  simp only [e, Option.bind_some, goodValue, risingBy, and_c, or_c, some_cond, some_dec]
  clear hw hw2 e
  grind (splits := 30)
theorem p_impl_ygoodFields_l : ∀ (l : List Val) (k : Nat), (∀ v ∈ l, wfD TyValue v) → P_impl_ygoodFields_0_2_1002_1020 l k = some (l.all fun v => !decide (v.1 = 3) && goodValue v)
  | [], k, _ => rfl
  | v :: l, k, h => by
    rw [P_impl_ygoodFields_0_2_1002_1020, p_impl_GoodValue (h v (by simp)), p_impl_ygoodFields_l l (k + 1) (fun x hx => h x (by simp [hx])), List.all_cons]
    simp only [Option.bind_some, nat0, and_c, or_c, some_cond, some_dec]
    grind
theorem p_impl_ygoodFields {n : List (List Int)} {v : List Val} (hn : wfD (.list .str) n) (hv : wfD (.list TyValue) v) : P_impl_ygoodFields n v = some (goodFields n v) := by
  rw [P_impl_ygoodFields, p_impl_yallNames hn, p_impl_yrising hn.1, lenOk_pos hv.1, p_impl_ygoodFields_l v 0 hv.2]
  simp only [Option.bind_some, goodFields, and_c, or_c, some_cond, some_dec]
  grind (splits := 30)
theorem p_spec_l11Fields_l (xs : List (List Int)) (vs : List Val) (hx : wfD (.list .str) xs) (hv : wfD (.list TyValue) vs) (hlen : vs.length = xs.length) : ∀ (r : List (List Int)) (k : Nat), r = xs.drop k →
    P_spec_l11Fields_0_4 xs vs r k = some (r.all goodName && risingFrom lessI (before xs k) r && (vs.drop k).all fun v => !decide (v.1 = 3) && goodValue v)
  | [], k, h => by
    have := drop_nil h
    rw [risingFrom_nil, List.drop_eq_nil_of_le (by omega)]; rfl
  | e :: r, k, h => by
    obtain ⟨h1, h2, h3, h4, h5⟩ := step_prev (d := Ty.dflt .str) hx.1 h
    have hk : k < vs.length := by omega
    have hg := List.getElem?_eq_getElem hk
    rw [P_spec_l11Fields_0_4, p_spec_GoodName (wfS_len (hx.2 e h4)), p_spec_l11Fields_l xs vs hx hv hlen r (k + 1) h1, h2, risingFrom_cons, inB_nat2 hk, rd_nat hg, p_spec_GoodValue (hv.2 _ (List.getElem_mem hk)), List.drop_eq_getElem_cons hk]
    simp only [Option.bind_some, List.all_cons, cond_true]
    rcases h5 with rfl | ⟨h5, h6, h7, h8⟩
    · simp only [before_zero, Int.natCast_zero, Int.lt_irrefl, decide_false, cond_false, and_c, or_c, some_cond, some_dec]
      grind
    · rw [h6, h7, p_spec_l1CmpText (hx.2 _ h8) (hx.2 _ h4)]
      simp only [Option.bind_some, cmpStr_ge, cond_true, and_c, or_c, some_cond, some_dec]
      have : decide ((0 : Int) < (k : Int)) = true := decide_eq_true (by omega)
      rw [this]
      clear hx hv h h1 h2 h7 h8
      grind
theorem p_spec_l11Fields {n : List (List Int)} {v : List Val} (hn : wfD (.list .str) n) (hv : wfD (.list TyValue) v) : P_spec_l11Fields n v = some (goodFields n v) := by
  rw [P_spec_l11Fields, lenOk_pos hn.1]
  by_cases hl : v.length = n.length
  · rw [p_spec_l11Fields_l n v hn hv hl n 0 rfl, List.drop_zero, before_zero]
    simp only [Option.bind_some, goodFields, risingBy, hl, and_c, or_c, some_cond, some_dec]
    clear hn hv
    grind (splits := 30)
  · simp only [goodFields, and_c, or_c, some_cond, some_dec]
    clear hn hv
    grind (splits := 30)
theorem p_impl_GoodRequest {r : Req} (hw : wfD TyRequest r) : P_impl_GoodRequest r = some (goodRequest r) := by
  have h : wfD TyAtom r.1 ∧ wfD TyAtom r.2.1 ∧ wfD TyAtom r.2.2.1 ∧ wfD (.list .str) r.2.2.2.1 ∧ wfD (.list TyValue) r.2.2.2.2 := hw
  rw [P_impl_GoodRequest, p_impl_ygoodRef h.1, p_impl_ygoodRef h.2.1, p_impl_ygoodRef h.2.2.1, p_impl_ygoodFields h.2.2.2.1 h.2.2.2.2]
  simp only [Option.bind_some, goodRequest, and_c, or_c, some_cond, some_dec]
  clear h hw
  grind (splits := 30)
theorem p_spec_GoodRequest {r : Req} (hw : wfD TyRequest r) : P_spec_GoodRequest r = some (goodRequest r) := by
  have h : wfD TyAtom r.1 ∧ wfD TyAtom r.2.1 ∧ wfD TyAtom r.2.2.1 ∧ wfD (.list .str) r.2.2.2.1 ∧ wfD (.list TyValue) r.2.2.2.2 := hw
  rw [P_spec_GoodRequest, p_spec_l11Ref h.1, p_spec_l11Ref h.2.1, p_spec_l11Ref h.2.2.1, p_spec_l11Fields h.2.2.2.1 h.2.2.2.2]
  simp only [Option.bind_some, goodRequest, and_c, or_c, some_cond, some_dec]
  clear h hw
  grind (splits := 30)
theorem law_GoodRequest (r : Req) (hw : wfD TyRequest r) : P_laws_FnExactGoodRequest r = some true := by
  rw [P_laws_FnExactGoodRequest, szC_some hw (by omega) (by omega)]
  simp only [Option.bind_some]
  cases hd : decide (lessZ 1048576 (Ty.size TyRequest r) < 0) with
  | true => rfl
  | false =>
    simp only [cond_false, toC_some hw (size_of hd), Option.bind_some, p_spec_GoodRequest hw, p_impl_GoodRequest hw, eqC_some hw]
    simp
theorem p_impl_ygoodRefs_l : ∀ (l : List Atm) (k : Nat), P_impl_ygoodRefs_0_2_1002_1010 l k = some (l.all fun a => decide (a.1 = 4))
  | [], k => rfl
  | a :: l, k => by
    rw [P_impl_ygoodRefs_0_2_1002_1010, p_impl_ygoodRefs_l l (k + 1), List.all_cons]
    simp only [nat0, and_c, or_c, some_cond, some_dec]
    grind
theorem p_impl_ygoodRefs {l : List Atm} {m : Int} (h : wfD (.list TyAtom) l) : P_impl_ygoodRefs l m = some (decide ((l.length : Int) ≤ m) && goodRefs l) := by
  rw [P_impl_ygoodRefs, p_impl_yrisingAtoms h, lenOk_pos h.1, p_impl_ygoodRefs_l]
  rw [goodRefs, show l.all goodRef = ((l.all fun a => decide (a.1 = 4)) && l.all goodAtom) from (all_and _ _ l).symm]
  simp only [Option.bind_some]
  cases l.all goodAtom <;> cases risingBy lessAtom l <;> cases (l.all fun a => decide (a.1 = 4)) <;> cases decide ((l.length : Int) ≤ m) <;> rfl
theorem p_impl_GoodThings_l (xs : List Thg) (hw : wfD (.list TyThing) xs) : ∀ (r : List Thg) (k : Nat), r = xs.drop k →
    P_impl_GoodThings_0_4 xs r k = some (r.all goodThing && risingFrom (fun a b => lessAtom a.1 b.1) (before xs k) r)
  | [], k, h => by rw [risingFrom_nil]; rfl
  | e :: r, k, h => by
    obtain ⟨h1, h2, h3, h4, h5⟩ := step_prev (d := Ty.dflt TyThing) hw.1 h
    have we : wfD TyAtom e.1 ∧ wfD (.list TyAtom) e.2.1 ∧ wfD (.list .str) e.2.2.1 ∧ wfD (.list TyValue) e.2.2.2 := hw.2 e h4
    rw [P_impl_GoodThings_0_4, p_impl_ygoodRef we.1, p_impl_ygoodRefs we.2.1, p_impl_ygoodFields we.2.2.1 we.2.2.2, p_impl_GoodThings_l xs hw r (k + 1) h1, h2, risingFrom_cons]
    simp only [Option.bind_some, List.all_cons, p_impl_ycmpAtom, cmpAtom_ge]
    rcases h5 with rfl | ⟨h5, h6, h7, h8⟩
    · simp only [before_zero, goodThing, Int.natCast_zero, Int.lt_irrefl, decide_false, cond_false, and_c, or_c, some_cond, some_dec]
      clear hw we h h1 h2
      grind (splits := 30)
    · rw [h6, h7, decide_eq_true (show (0 : Int) < (k : Int) by omega)]
      simp only [goodThing, cond_true, and_c, or_c, some_cond, some_dec]
      clear hw we h h1 h2 h7 h8
      grind (splits := 30)
theorem p_impl_GoodThings {l : List Thg} (hw : wfD (.list TyThing) l) : P_impl_GoodThings l = some (goodThings l) := by
  rw [P_impl_GoodThings, lenOk_pos hw.1, p_impl_GoodThings_l l hw l 0 rfl, before_zero]
  simp only [goodThings, risingBy, and_c, or_c, some_cond, some_dec]
  clear hw
  grind
theorem p_spec_GoodThings_m (K : Option Bool) (x : Thg) (hw : wfD (.list TyAtom) x.2.1) : ∀ (r : List Atm) (k : Nat), r = x.2.1.drop k →
    P_spec_GoodThings_0_9 K x r k = bif r.all goodRef && risingFrom lessAtom (before x.2.1 k) r then K else some false
  | [], k, _ => by rw [risingFrom_nil]; rfl
  | e :: r, k, h => by
    obtain ⟨h1, h2, h3, h4, h5⟩ := step_prev (d := Ty.dflt TyAtom) hw.1 h
    rw [P_spec_GoodThings_0_9, p_spec_l11Ref (hw.2 e h4), p_spec_GoodThings_m K x hw r (k + 1) h1, h2, risingFrom_cons]
    simp only [Option.bind_some, List.all_cons]
    rcases h5 with rfl | ⟨h5, h6, h7, h8⟩
    · simp only [before_zero, Int.natCast_zero, Int.lt_irrefl, decide_false, cond_false, and_c, or_c]
      clear hw h h1 h2
      grind (splits := 30)
    · rw [h6, h7, decide_eq_true (show (0 : Int) < (k : Int) by omega), p_spec_l1Cmp (hw.2 _ h8) (hw.2 _ h4)]
      simp only [Option.bind_some, cmpAtom_ge, cond_true, and_c, or_c]
      clear hw h h1 h2 h7 h8
      grind (splits := 30)
theorem p_spec_GoodThings_l (xs : List Thg) (hw : wfD (.list TyThing) xs) : ∀ (r : List Thg) (k : Nat), r = xs.drop k →
    P_spec_GoodThings_0_4 xs r k = some (r.all goodThing && risingFrom (fun a b => lessAtom a.1 b.1) (before xs k) r)
  | [], k, h => by rw [risingFrom_nil]; rfl
  | e :: r, k, h => by
    obtain ⟨h1, h2, h3, h4, h5⟩ := step_prev (d := Ty.dflt TyThing) hw.1 h
    have we : wfD TyAtom e.1 ∧ wfD (.list TyAtom) e.2.1 ∧ wfD (.list .str) e.2.2.1 ∧ wfD (.list TyValue) e.2.2.2 := hw.2 e h4
    rw [P_spec_GoodThings_0_4, p_spec_l11Ref we.1, p_spec_l11Fields we.2.2.1 we.2.2.2, lenOk_pos we.2.1.1, p_spec_GoodThings_m _ e we.2.1 e.2.1 0 rfl, p_spec_GoodThings_l xs hw r (k + 1) h1, h2, risingFrom_cons]
    simp only [Option.bind_some, List.all_cons, before_zero]
    have hg : goodThing e = (goodRef e.1 && decide (e.2.1.length ≤ 50) && (e.2.1.all goodRef && risingFrom lessAtom none e.2.1) && goodFields e.2.2.1 e.2.2.2) := rfl
    rcases h5 with rfl | ⟨h5, h6, h7, h8⟩
    · simp only [hg, before_zero, Int.natCast_zero, Int.lt_irrefl, decide_false, cond_false, and_c, or_c, some_cond, some_dec]
      clear hw we h h1 h2 hg
      grind (splits := 30)
    · have wp : wfD TyAtom _ ∧ _ := hw.2 _ h8
      rw [h6, h7, decide_eq_true (show (0 : Int) < (k : Int) by omega), p_spec_l1Cmp wp.1 we.1]
      simp only [Option.bind_some, hg, cmpAtom_ge, cond_true, and_c, or_c, some_cond, some_dec]
      clear hw we h h1 h2 h7 h8 wp hg
      grind (splits := 30)
theorem p_spec_GoodThings {l : List Thg} (hw : wfD (.list TyThing) l) : P_spec_GoodThings l = some (goodThings l) := by
  rw [P_spec_GoodThings, lenOk_pos hw.1, p_spec_GoodThings_l l hw l 0 rfl, before_zero]
  simp only [goodThings, risingBy, and_c, or_c, some_cond, some_dec]
  clear hw
  grind
theorem law_GoodThings (r : List Thg) (hw : wfD (.list TyThing) r) : P_laws_FnExactGoodThings r = some true := by
  rw [P_laws_FnExactGoodThings, szC_some hw (by omega) (by omega)]
  simp only [Option.bind_some]
  cases hd : decide (lessZ 1048576 (Ty.size (.list TyThing) r) < 0) with
  | true => rfl
  | false =>
    simp only [cond_false, toC_some hw (size_of hd), Option.bind_some, p_spec_GoodThings hw, p_impl_GoodThings hw, eqC_some hw]
    simp

end Go.Ab
