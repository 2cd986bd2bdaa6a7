/-
  What the functions come to, in plain words.
-/
import Derived.Test.YtlhbebagmkeghaaGenHead
import Derived.Test.YtlhbebagmkeghaaPlain1
namespace Go.Ab
open Go.Proofs
theorem p_spec_l1Printed_l (s : List Int) : P_spec_l1Printed_0_2 s = some (printed s) := by
  induction s with
  | nil => rfl
  | cons e r ih =>
    simp only [P_spec_l1Printed_0_2, ih, printed, List.all_cons, isPrint]
    grind
theorem p_spec_l1Printed {s : List Int} (h : s.length ≤ maxLen) : P_spec_l1Printed s = some (printed s) := by
  rw [P_spec_l1Printed, lenOk_pos h, p_spec_l1Printed_l]
theorem p_impl_yprinted_l (s : List Int) : P_impl_yprinted_0_4 s = some (printed s) := by
  induction s with
  | nil => rfl
  | cons e r ih =>
    simp only [P_impl_yprinted_0_4, ih, printed, List.all_cons, isPrint]
    grind
theorem p_impl_yprinted {s : List Int} (lo hi : Int) (h : s.length ≤ maxLen) : P_impl_yprinted s lo hi = some (printedIn s lo hi) := by
  rw [P_impl_yprinted, lenOk_pos h, p_impl_yprinted_l, printedIn, printed]
  grind
theorem t_spec_l1Digit (x : Int) : T_spec_l1Digit x = isDigit x := by unfold T_spec_l1Digit isDigit; grind
theorem t_impl_ydigit (x : Int) : T_impl_ydigit x = isDigit x := by unfold T_impl_ydigit isDigit; grind
theorem t_spec_l1Letter (x : Int) : T_spec_l1Letter x = isLetter x := by unfold T_spec_l1Letter isLetter; grind
theorem t_impl_yletter (x : Int) : T_impl_yletter x = isLetter x := by unfold T_impl_yletter isLetter; grind
theorem t_impl_ywordByte (x : Int) : T_impl_ywordByte x = isWord x := by unfold T_impl_ywordByte isWord; rw [t_impl_yletter, t_impl_ydigit]; grind
theorem p_spec_GoodName_l (s : List Int) : P_spec_GoodName_0_4 s = some (s.all isWord) := by
  induction s with
  | nil => rfl
  | cons e r ih =>
    simp only [P_spec_GoodName_0_4, ih, List.all_cons, isWord, t_spec_l1Letter, t_spec_l1Digit]
    grind
theorem p_spec_GoodName {s : List Int} (h : s.length ≤ maxLen) : P_spec_GoodName s = some (goodName s) := by
  rw [P_spec_GoodName, lenOk_pos h, p_spec_GoodName_l, goodName]
  simp only [t_spec_l1Digit, inB]
  grind
theorem p_impl_GoodName_l (s : List Int) : P_impl_GoodName_0_4 s = some (s.all isWord) := by
  induction s with
  | nil => rfl
  | cons e r ih =>
    simp only [P_impl_GoodName_0_4, ih, List.all_cons, t_impl_ywordByte]
    grind
theorem p_impl_GoodName {s : List Int} (h : s.length ≤ maxLen) : P_impl_GoodName s = some (goodName s) := by
  rw [P_impl_GoodName, lenOk_pos h, p_impl_GoodName_l, goodName]
  simp only [t_impl_ydigit, inB]
  cases s with
  | nil => rfl
  | cons x s => grind
theorem p_spec_l1Pow2_l (x : Int) (hx : x ≤ 62) : ∀ (m : Nat) (k : Int), 0 ≤ k → k ≤ x → x - k < m → P_spec_l1Pow2_0_3 x m (2 ^ k.toNat) k = some (2 ^ x.toNat) := by
  intro m
  induction m with
  | zero => intro k _ _ h; omega
  | succ m ih =>
    intro k h0 hk hm
    rw [P_spec_l1Pow2_0_3]
    by_cases h : k < x
    · have e : (2 : Int) ^ k.toNat * 2 = 2 ^ (k + 1).toNat := by
        rw [show (k + 1).toNat = k.toNat + 1 by omega, Int.pow_succ]
      have hb : (2 : Int) ^ (k + 1).toNat ≤ 2 ^ 62 := by
        have := Nat.pow_le_pow_right (n := 2) (by omega) (show (k + 1).toNat ≤ 62 by omega)
        exact_mod_cast this
      have hp : (0 : Int) < 2 ^ (k + 1).toNat := Int.pow_pos (by omega)
      rw [decide_eq_true h, e, wrapU (by omega), wrapU (by omega)]
      exact ih _ (by omega) (by omega) (by omega)
    · have : k = x := by omega
      subst this
      rw [decide_eq_false h]; rfl
theorem p_spec_l1Pow2 {x : Int} (h0 : 0 ≤ x) (hx : x ≤ 62) : E_spec_l1Pow2 x = some (pow2 x) := by
  refine evOpt_of ⟨x.toNat + 1, fun m hm => ?_⟩
  have := p_spec_l1Pow2_l x hx m 0 (by omega) h0 (by omega)
  exact this
theorem p_spec_l1Block {a : Atm} (h0 : 0 ≤ a.2.1) (h1 : a.2.1 ≤ 9223372036854775807) (h : a.2.1.tmod 64 ≤ 32) : P_spec_l1Block a = some (a.2.1.tdiv 64, pow2 (32 - a.2.1.tmod 64)) := by
  have hm := Int.tmod_nonneg 64 h0
  have hd : a.2.1.tdiv 64 = a.2.1 / 64 := Int.tdiv_eq_ediv_of_nonneg h0
  rw [P_spec_l1Block, wrapU (by omega), p_spec_l1Pow2 (by omega) (by omega), wrapU (by omega)]
  rfl
theorem p_spec_GoodAtom {a : Atm} (hw : wfD TyAtom a) : P_spec_GoodAtom a = some (goodAtom a) := by
  have hw2 : inK .i64 a.1 = true ∧ inK .i64 a.2.1 = true ∧ wfD .str a.2.2.1 ∧ wfD .str a.2.2.2 := hw
  have h1 := wfS_len hw2.2.2.1
  have h2 := wfS_len hw2.2.2.2
  have hn := hw2.2.1
  rw [inK_iff, min_i64, max_i64] at hn
  have hp : E_spec_l1Pow2 32 = some 4294967296 := p_spec_l1Pow2 (x := 32) (by omega) (by omega)
  have hb := p_spec_l1Block (a := a)
  have hd : 0 ≤ a.2.1 → a.2.1.tdiv 64 = a.2.1 / 64 := fun h => Int.tdiv_eq_ediv_of_nonneg h
  have hw1 : IntKind.wrap .i64 (4294967296 - 1) = 4294967295 := wrapU (by omega)
  have hpos : pow2 (32 - a.2.1.tmod 64) ≠ 0 := by unfold pow2; exact Int.ne_of_gt (Int.pow_pos (by omega))
  have hwr : 0 ≤ a.2.1 → IntKind.wrap .i64 (a.2.1.tdiv 64) = a.2.1.tdiv 64 := fun h => wrapU (by have := hd h; omega)
  simp only [P_spec_GoodAtom, P_spec_GoodAtom_1_3, P_spec_GoodAtom_1_8, p_spec_l1Printed h1, p_spec_GoodName h2, hp, Option.bind_some, hw1]
  unfold goodAtom printedIn printed
  by_cases k6 : a.1 = 6
  · simp only [k6]
    by_cases h0 : a.2.1 < 0
    · have : ¬ 0 ≤ a.2.1 := by omega
      grind
    · have h0' : 0 ≤ a.2.1 := by omega
      rw [hwr h0']
      by_cases h32 : a.2.1.tmod 64 ≤ 32
      · rw [hb h0' hn.2 h32]
        simp only [Option.bind_some]
        grind
      · grind
  · clear hb hd hpos hwr hp hw hw2
    simp only [k6, decide_false, cond_false, and_c, or_c, some_cond, some_dec]
    grind (splits := 30)
theorem p_impl_GoodAtom {a : Atm} (hw : wfD TyAtom a) : P_impl_GoodAtom a = some (goodAtom a) := by
  have hw2 : inK .i64 a.1 = true ∧ inK .i64 a.2.1 = true ∧ wfD .str a.2.2.1 ∧ wfD .str a.2.2.2 := hw
  have h1 := wfS_len hw2.2.2.1
  have h2 := wfS_len hw2.2.2.2
  have hn := hw2.2.1
  rw [inK_iff, min_i64, max_i64] at hn
  have hd : 0 ≤ a.2.1 → a.2.1.tdiv 64 = a.2.1 / 64 := fun h => Int.tdiv_eq_ediv_of_nonneg h
  have hwr : 0 ≤ a.2.1 → IntKind.wrap .i64 (a.2.1.tdiv 64) = a.2.1.tdiv 64 := fun h => wrapU (by have := hd h; omega)
  have hmm : 0 ≤ a.2.1 → 0 ≤ a.2.1.tmod 64 := fun h => Int.tmod_nonneg 64 h
  simp only [P_impl_GoodAtom, P_impl_GoodAtom_1_2, P_impl_GoodAtom_1_7, p_impl_yprinted _ _ h1, p_impl_GoodName h2, Option.bind_some]
  unfold goodAtom
  by_cases k6 : a.1 = 6
  · simp only [k6]
    by_cases h0 : a.2.1 < 0
    · have : ¬ 0 ≤ a.2.1 := by omega
      grind
    · have h0' : 0 ≤ a.2.1 := by omega
      have hm0 := hmm h0'
      rw [hwr h0']
      by_cases h32 : a.2.1.tmod 64 ≤ 32
      · have hws : IntKind.wrap .i64 (32 - a.2.1.tmod 64) = 32 - a.2.1.tmod 64 := wrapU (by omega)
        have hmn : min (32 - a.2.1.tmod 64).toNat 64 = (32 - a.2.1.tmod 64).toNat := by omega
        have hb : (2 : Int) ^ (32 - a.2.1.tmod 64).toNat ≤ 2 ^ 32 := by
          have := Nat.pow_le_pow_right (n := 2) (by omega) (show (32 - a.2.1.tmod 64).toNat ≤ 32 by omega)
          exact_mod_cast this
        have hp : (0 : Int) < 2 ^ (32 - a.2.1.tmod 64).toNat := Int.pow_pos (by omega)
        rw [hws, hmn, Int.one_mul, wrapU (by omega)]
        unfold pow2
        have hp2 : (2 : Int) ^ (32 - a.2.1.tmod 64).toNat ≠ 0 := by omega
        generalize (2 : Int) ^ (32 - a.2.1.tmod 64).toNat = q at *
        grind
      · grind
  · grind
theorem t_spec_l1CmpNum (a b : Int) : T_spec_l1CmpNum a b = cmpNum a b := by unfold T_spec_l1CmpNum cmpNum; rfl
theorem p_spec_l1CmpText_l (a b : List Int) (ha : bytesL a) (hb : bytesL b) : ∀ (r : List Int) (k : Nat), r = a.drop k → k ≤ a.length → k ≤ b.length → P_spec_l1CmpText_0_2 a b r k = some (cmpText r (b.drop k)) := by
  intro r
  induction r with
  | nil =>
    intro k hr hk hkb
    have h1 := drop_nil hr
    rw [P_spec_l1CmpText_0_2, t_spec_l1CmpNum, cmpText_nil, List.length_drop]
    unfold cmpNum
    grind
  | cons e r ih =>
    intro k hr hk hkb
    obtain ⟨h1, _, h2⟩ := drop_cons (d := 0) hr
    have h3 : (e :: r).length = a.length - k := by rw [hr, List.length_drop]
    rw [P_spec_l1CmpText_0_2]
    by_cases h : k < b.length
    · have hg := List.getElem?_eq_getElem h
      have he := ha e (List.mem_of_mem_drop (hr ▸ List.mem_cons_self))
      have hbk := hb b[k] (List.getElem_mem h)
      rw [rd_nat hg, inB_nat2 h, decide_eq_true (by omega), List.drop_eq_getElem_cons h, wrapU (by omega), wrapU (by omega), t_spec_l1CmpNum, ih (k + 1) h2 (by omega) (by omega)]
      simp only [cmpText, cond_true]
      by_cases hc : e = b[k]
      · simp [hc]
      · simp [hc]
    · rw [decide_eq_false (by omega), List.drop_eq_nil_of_le (by omega), cmpText_nil2, h3]
      simp only [cond_false, t_spec_l1CmpNum, cmpNum]
      grind
theorem p_spec_l1CmpText {a b : List Int} (ha : wfD .str a) (hb : wfD .str b) : P_spec_l1CmpText a b = some (cmpStr a b) := by
  rw [P_spec_l1CmpText, lenOk_pos (wfS_len ha), p_spec_l1CmpText_l a b (wfS_bytes ha) (wfS_bytes hb) a 0 rfl (by omega) (by omega), List.drop_zero, cmpText_str]
theorem p_spec_l1Cmp {a b : Atm} (ha : wfD TyAtom a) (hb : wfD TyAtom b) : P_spec_l1Cmp a b = some (cmpAtom a b) := by
  have ha2 : inK .i64 a.1 = true ∧ inK .i64 a.2.1 = true ∧ wfD .str a.2.2.1 ∧ wfD .str a.2.2.2 := ha
  have hb2 : inK .i64 b.1 = true ∧ inK .i64 b.2.1 = true ∧ wfD .str b.2.2.1 ∧ wfD .str b.2.2.2 := hb
  rw [P_spec_l1Cmp, p_spec_l1CmpText ha2.2.2.1 hb2.2.2.1, p_spec_l1CmpText ha2.2.2.2 hb2.2.2.2]
  simp only [t_spec_l1CmpNum, cmpAtom, Option.bind_some]
  grind
theorem t_cmp_Compare_int (a b : Int) : T_cmp_Compare_int a b = cmpNum a b := by
  unfold T_cmp_Compare_int T_cmp_isNaN_int cmpNum
  simp
theorem t_cmp_Compare_string (a b : List Int) : T_cmp_Compare_string a b = cmpStr a b := by
  unfold T_cmp_Compare_string T_cmp_isNaN_string cmpStr
  simp
theorem p_impl_ycmpAtom (a b : Atm) : P_impl_ycmpAtom a b = some (cmpAtom a b) := by
  rw [P_impl_ycmpAtom, P_cmp_Or_int, lenOk_pos (by simp [maxLen])]
  simp only [P_cmp_Or_int_0_3, t_cmp_Compare_int, t_cmp_Compare_string, cmpAtom]
  have h := cmpStr_zero a.2.2.1 b.2.2.1
  grind
theorem p_impl_ygoodRef {a : Atm} (hw : wfD TyAtom a) : P_impl_ygoodRef a = some (goodRef a) := by
  rw [P_impl_ygoodRef, p_impl_GoodAtom hw, goodRef]; grind
theorem p_spec_l11Ref {a : Atm} (hw : wfD TyAtom a) : P_spec_l11Ref a = some (goodRef a) := by
  rw [P_spec_l11Ref, p_spec_GoodAtom hw, goodRef]; grind
theorem p_impl_yallNames_l : ∀ (l : List (List Int)) (k : Nat), (∀ s ∈ l, s.length ≤ maxLen) → P_impl_yallNames_0_2_1002_1001 l k = some (l.all goodName)
  | [], k, _ => rfl
  | s :: l, k, h => by
    rw [P_impl_yallNames_0_2_1002_1001, p_impl_GoodName (h s (by simp)), p_impl_yallNames_l l (k + 1) (fun x hx => h x (by simp [hx])), List.all_cons]
    simp only [Option.bind_some, nat0]
    grind
theorem p_impl_yallNames {l : List (List Int)} (h : wfD (.list .str) l) : P_impl_yallNames l = some (l.all goodName) := by
  rw [P_impl_yallNames, lenOk_pos h.1, p_impl_yallNames_l l 0 fun s hs => wfS_len (h.2 s hs)]
theorem p_impl_yrising_l (xs : List (List Int)) (hl : xs.length ≤ maxLen) : ∀ (r : List (List Int)) (k : Nat), r = xs.drop k → P_impl_yrising_0_2 xs r k = some (risingFrom lessI (before xs k) r)
  | [], k, _ => by rw [risingFrom_nil]; rfl
  | e :: r, k, h => by
    obtain ⟨h1, h2, h3, h4, h5⟩ := step_prev (d := Ty.dflt .str) hl h
    rw [P_impl_yrising_0_2, p_impl_yrising_l xs hl r (k + 1) h1, h2, risingFrom_cons]
    rcases h5 with rfl | ⟨h5, h6, h7, _⟩
    · simp [before]
    · rw [h6, h7]; grind
theorem p_impl_yrising {l : List (List Int)} (h : l.length ≤ maxLen) : P_impl_yrising l = some (risingBy lessI l) := by
  rw [P_impl_yrising, lenOk_pos h, p_impl_yrising_l l h l 0 rfl]; rfl
theorem t_impl_yzeroAtom (a : Atm) : T_impl_yzeroAtom a = decide (a = (0, 0, [], [])) := by unfold T_impl_yzeroAtom; exact decide_eq_decide.2 Iff.rfl
theorem p_impl_yrisingAtoms_l (xs : List Atm) (hw : wfD (.list TyAtom) xs) : ∀ (r : List Atm) (k : Nat), r = xs.drop k → P_impl_yrisingAtoms_0_2 xs r k = some (r.all goodAtom && risingFrom lessAtom (before xs k) r)
  | [], k, _ => by rw [risingFrom_nil]; rfl
  | e :: r, k, h => by
    obtain ⟨h1, h2, h3, h4, h5⟩ := step_prev (d := Ty.dflt TyAtom) hw.1 h
    rw [P_impl_yrisingAtoms_0_2, p_impl_GoodAtom (hw.2 e h4), p_impl_yrisingAtoms_l xs hw r (k + 1) h1, h2, risingFrom_cons]
    simp only [Option.bind_some, p_impl_ycmpAtom, cmpAtom_ge, List.all_cons]
    rcases h5 with rfl | ⟨h5, h6, h7, _⟩
    · simp [before]; grind
    · rw [h6, h7]; grind
theorem p_impl_yrisingAtoms {l : List Atm} (h : wfD (.list TyAtom) l) : P_impl_yrisingAtoms l = some (l.all goodAtom && risingBy lessAtom l) := by
  rw [P_impl_yrisingAtoms, lenOk_pos h.1, p_impl_yrisingAtoms_l l h l 0 rfl]; rfl
theorem p_impl_GoodValue_l : ∀ (l : List Atm) (k : Nat), (∀ a ∈ l, wfD TyAtom a) → P_impl_GoodValue_0_2_1002_7031 l k = some (l.all goodAtom)
  | [], k, _ => rfl
  | s :: l, k, h => by
    rw [P_impl_GoodValue_0_2_1002_7031, p_impl_GoodAtom (h s (by simp)), p_impl_GoodValue_l l (k + 1) (fun x hx => h x (by simp [hx])), List.all_cons]
    simp only [Option.bind_some, nat0]
    grind
theorem p_impl_GoodValue {v : Val} (hw : wfD TyValue v) : P_impl_GoodValue v = some (goodValue v) := by
  have hw2 : inK .i64 v.1 = true ∧ wfD TyAtom v.2.1 ∧ wfD (.list TyAtom) v.2.2.1 ∧ wfD (.list .str) v.2.2.2 := hw
  rw [P_impl_GoodValue, p_impl_GoodAtom hw2.2.1, p_impl_yrisingAtoms hw2.2.2.1, p_impl_yallNames hw2.2.2.2, p_impl_yrising hw2.2.2.2.1, lenOk_pos hw2.2.2.1.1, p_impl_GoodValue_l _ _ hw2.2.2.1.2]
  simp only [t_impl_yzeroAtom, Option.bind_some, goodValue, and_c, or_c, some_cond, some_dec]
  clear hw hw2
  grind (splits := 30)
theorem p_spec_GoodValue_m (v : Val) (hw : wfD (.list .str) v.2.2.2) : ∀ (r : List (List Int)) (k : Nat), r = v.2.2.2.drop k → P_spec_GoodValue_0_19 v r k = some (r.all goodName && risingFrom lessI (before v.2.2.2 k) r)
  | [], k, _ => by rw [risingFrom_nil]; rfl
  | e :: r, k, h => by
    obtain ⟨h1, h2, h3, h4, h5⟩ := step_prev (d := Ty.dflt .str) hw.1 h
    rw [P_spec_GoodValue_0_19, p_spec_GoodName (wfS_len (hw.2 e h4)), p_spec_GoodValue_m v hw r (k + 1) h1, h2, risingFrom_cons]
    simp only [Option.bind_some, List.all_cons]
    rcases h5 with rfl | ⟨h5, h6, h7, h8⟩
    · simp [before]; grind
    · rw [h6, h7, p_spec_l1CmpText (hw.2 _ h8) (hw.2 _ h4)]
      simp only [Option.bind_some, cmpStr_ge]
      grind
theorem p_spec_GoodValue_l (v : Val) (hw : wfD (.list TyAtom) v.2.2.1) (hn : wfD (.list .str) v.2.2.2) : ∀ (r : List Atm) (k : Nat), r = v.2.2.1.drop k → P_spec_GoodValue_0_9 v r k =
    some (r.all goodAtom && (bif decide (v.1 = 2) then risingFrom lessAtom (before v.2.2.1 k) r && decide (v.2.2.2.length = 0) else decide (v.2.2.2.length = v.2.2.1.length) && v.2.2.2.all goodName && risingBy lessI v.2.2.2))
  | [], k, _ => by
    rw [P_spec_GoodValue_0_9, risingFrom_nil, lenOk_pos hn.1, p_spec_GoodValue_m v hn v.2.2.2 0 rfl, risingBy, before_zero]
    simp only [List.all_nil, and_c, or_c, some_cond, some_dec]
    grind (splits := 30)
  | e :: r, k, h => by
    obtain ⟨h1, h2, h3, h4, h5⟩ := step_prev (d := Ty.dflt TyAtom) hw.1 h
    rw [P_spec_GoodValue_0_9, p_spec_GoodAtom (hw.2 e h4), p_spec_GoodValue_l v hw hn r (k + 1) h1, h2, risingFrom_cons]
    simp only [Option.bind_some, List.all_cons]
    rcases h5 with rfl | ⟨h5, h6, h7, h8⟩
    · simp [before]; grind
    · rw [h6, h7, p_spec_l1Cmp (hw.2 _ h8) (hw.2 _ h4)]
      simp only [Option.bind_some, cmpAtom_ge]
      grind
theorem p_spec_GoodValue {v : Val} (hw : wfD TyValue v) : P_spec_GoodValue v = some (goodValue v) := by
  have hw2 : inK .i64 v.1 = true ∧ wfD TyAtom v.2.1 ∧ wfD (.list TyAtom) v.2.2.1 ∧ wfD (.list .str) v.2.2.2 := hw
  rw [P_spec_GoodValue]
  simp only [P_spec_GoodValue_1_6]
  rw [p_spec_GoodAtom hw2.2.1, lenOk_pos hw2.2.2.1.1, p_spec_GoodValue_l v hw2.2.2.1 hw2.2.2.2 v.2.2.1 0 rfl, before_zero]
  have e : (@decide (v.2.1 = (0, 0, ([] : List Int), ([] : List Int))) (Ty.decEq TyAtom v.2.1 (0, 0, ([] : List Int), ([] : List Int)))) = decide (v.2.1 = (0, 0, [], [])) := decide_eq_decide.2 Iff.rfl
  simp only [e, Option.bind_some, goodValue, risingBy, and_c, or_c, some_cond, some_dec]
  clear hw hw2 e
  grind (splits := 30)
theorem p_impl_ygoodFields_l : ∀ (l : List Val) (k : Nat), (∀ v ∈ l, wfD TyValue v) → P_impl_ygoodFields_0_2_1002_1020 l k = some (l.all fun v => !decide (v.1 = 3) && goodValue v)
  | [], k, _ => rfl
  | v :: l, k, h => by
    rw [P_impl_ygoodFields_0_2_1002_1020, p_impl_GoodValue (h v (by simp)), p_impl_ygoodFields_l l (k + 1) (fun x hx => h x (by simp [hx])), List.all_cons]
    simp only [Option.bind_some, nat0, and_c, or_c, some_cond, some_dec]
    grind
theorem p_impl_ygoodFields {n : List (List Int)} {v : List Val} (hn : wfD (.list .str) n) (hv : wfD (.list TyValue) v) : P_impl_ygoodFields n v = some (goodFields n v) := by
  rw [P_impl_ygoodFields, p_impl_yallNames hn, p_impl_yrising hn.1, lenOk_pos hv.1, p_impl_ygoodFields_l v 0 hv.2]
  simp only [Option.bind_some, goodFields, and_c, or_c, some_cond, some_dec]
  grind (splits := 30)
theorem p_spec_l11Fields_l (xs : List (List Int)) (vs : List Val) (hx : wfD (.list .str) xs) (hv : wfD (.list TyValue) vs) (hlen : vs.length = xs.length) : ∀ (r : List (List Int)) (k : Nat), r = xs.drop k →
    P_spec_l11Fields_0_4 xs vs r k = some (r.all goodName && risingFrom lessI (before xs k) r && (vs.drop k).all fun v => !decide (v.1 = 3) && goodValue v)
  | [], k, h => by
    have := drop_nil h
    rw [risingFrom_nil, List.drop_eq_nil_of_le (by omega)]; rfl
  | e :: r, k, h => by
    obtain ⟨h1, h2, h3, h4, h5⟩ := step_prev (d := Ty.dflt .str) hx.1 h
    have hk : k < vs.length := by omega
    have hg := List.getElem?_eq_getElem hk
    rw [P_spec_l11Fields_0_4, p_spec_GoodName (wfS_len (hx.2 e h4)), p_spec_l11Fields_l xs vs hx hv hlen r (k + 1) h1, h2, risingFrom_cons, inB_nat2 hk, rd_nat hg, p_spec_GoodValue (hv.2 _ (List.getElem_mem hk)), List.drop_eq_getElem_cons hk]
    simp only [Option.bind_some, List.all_cons, cond_true]
    rcases h5 with rfl | ⟨h5, h6, h7, h8⟩
    · simp only [before_zero, Int.natCast_zero, Int.lt_irrefl, decide_false, cond_false, and_c, or_c, some_cond, some_dec]
      grind
    · rw [h6, h7, p_spec_l1CmpText (hx.2 _ h8) (hx.2 _ h4)]
      simp only [Option.bind_some, cmpStr_ge, cond_true, and_c, or_c, some_cond, some_dec]
      have : decide ((0 : Int) < (k : Int)) = true := decide_eq_true (by omega)
      rw [this]
      clear hx hv h h1 h2 h7 h8
      grind
theorem p_spec_l11Fields {n : List (List Int)} {v : List Val} (hn : wfD (.list .str) n) (hv : wfD (.list TyValue) v) : P_spec_l11Fields n v = some (goodFields n v) := by
  rw [P_spec_l11Fields, lenOk_pos hn.1]
  by_cases hl : v.length = n.length
  · rw [p_spec_l11Fields_l n v hn hv hl n 0 rfl, List.drop_zero, before_zero]
    simp only [Option.bind_some, goodFields, risingBy, hl, and_c, or_c, some_cond, some_dec]
    clear hn hv
    grind (splits := 30)
  · simp only [goodFields, and_c, or_c, some_cond, some_dec]
    clear hn hv
    grind (splits := 30)
theorem p_impl_ygoodRefs_l : ∀ (l : List Atm) (k : Nat), P_impl_ygoodRefs_0_2_1002_1010 l k = some (l.all fun a => decide (a.1 = 4))
  | [], k => rfl
  | a :: l, k => by
    rw [P_impl_ygoodRefs_0_2_1002_1010, p_impl_ygoodRefs_l l (k + 1), List.all_cons]
    simp only [nat0, and_c, or_c, some_cond, some_dec]
    grind
theorem p_impl_ygoodRefs {l : List Atm} {m : Int} (h : wfD (.list TyAtom) l) : P_impl_ygoodRefs l m = some (decide ((l.length : Int) ≤ m) && goodRefs l) := by
  rw [P_impl_ygoodRefs, p_impl_yrisingAtoms h, lenOk_pos h.1, p_impl_ygoodRefs_l]
  rw [goodRefs, show l.all goodRef = ((l.all fun a => decide (a.1 = 4)) && l.all goodAtom) from (all_and _ _ l).symm]
  simp only [Option.bind_some]
  cases l.all goodAtom <;> cases risingBy lessAtom l <;> cases (l.all fun a => decide (a.1 = 4)) <;> cases decide ((l.length : Int) ≤ m) <;> rfl
theorem p_impl_GoodThings_l (xs : List Thg) (hw : wfD (.list TyThing) xs) : ∀ (r : List Thg) (k : Nat), r = xs.drop k →
    P_impl_GoodThings_0_4 xs r k = some (r.all goodThing && risingFrom (fun a b => lessAtom a.1 b.1) (before xs k) r)
  | [], k, h => by rw [risingFrom_nil]; rfl
  | e :: r, k, h => by
    obtain ⟨h1, h2, h3, h4, h5⟩ := step_prev (d := Ty.dflt TyThing) hw.1 h
    have we : wfD TyAtom e.1 ∧ wfD (.list TyAtom) e.2.1 ∧ wfD (.list .str) e.2.2.1 ∧ wfD (.list TyValue) e.2.2.2 := hw.2 e h4
    rw [P_impl_GoodThings_0_4, p_impl_ygoodRef we.1, p_impl_ygoodRefs we.2.1, p_impl_ygoodFields we.2.2.1 we.2.2.2, p_impl_GoodThings_l xs hw r (k + 1) h1, h2, risingFrom_cons]
    simp only [Option.bind_some, List.all_cons, p_impl_ycmpAtom, cmpAtom_ge]
    rcases h5 with rfl | ⟨h5, h6, h7, h8⟩
    · simp only [before_zero, goodThing, Int.natCast_zero, Int.lt_irrefl, decide_false, cond_false, and_c, or_c, some_cond, some_dec]
      clear hw we h h1 h2
      grind (splits := 30)
    · rw [h6, h7, decide_eq_true (show (0 : Int) < (k : Int) by omega)]
      simp only [goodThing, cond_true, and_c, or_c, some_cond, some_dec]
      clear hw we h h1 h2 h7 h8
      grind (splits := 30)
theorem p_impl_GoodThings {l : List Thg} (hw : wfD (.list TyThing) l) : P_impl_GoodThings l = some (goodThings l) := by
  rw [P_impl_GoodThings, lenOk_pos hw.1, p_impl_GoodThings_l l hw l 0 rfl, before_zero]
  simp only [goodThings, risingBy, and_c, or_c, some_cond, some_dec]
  clear hw
  grind
theorem p_spec_GoodThings_m (K : Option Bool) (x : Thg) (hw : wfD (.list TyAtom) x.2.1) : ∀ (r : List Atm) (k : Nat), r = x.2.1.drop k →
    P_spec_GoodThings_0_9 K x r k = bif r.all goodRef && risingFrom lessAtom (before x.2.1 k) r then K else some false
  | [], k, _ => by rw [risingFrom_nil]; rfl
  | e :: r, k, h => by
    obtain ⟨h1, h2, h3, h4, h5⟩ := step_prev (d := Ty.dflt TyAtom) hw.1 h
    rw [P_spec_GoodThings_0_9, p_spec_l11Ref (hw.2 e h4), p_spec_GoodThings_m K x hw r (k + 1) h1, h2, risingFrom_cons]
    simp only [Option.bind_some, List.all_cons]
    rcases h5 with rfl | ⟨h5, h6, h7, h8⟩
    · simp only [before_zero, Int.natCast_zero, Int.lt_irrefl, decide_false, cond_false, and_c, or_c]
      clear hw h h1 h2
      grind (splits := 30)
    · rw [h6, h7, decide_eq_true (show (0 : Int) < (k : Int) by omega), p_spec_l1Cmp (hw.2 _ h8) (hw.2 _ h4)]
      simp only [Option.bind_some, cmpAtom_ge, cond_true, and_c, or_c]
      clear hw h h1 h2 h7 h8
      grind (splits := 30)
theorem p_spec_GoodThings_l (xs : List Thg) (hw : wfD (.list TyThing) xs) : ∀ (r : List Thg) (k : Nat), r = xs.drop k →
    P_spec_GoodThings_0_4 xs r k = some (r.all goodThing && risingFrom (fun a b => lessAtom a.1 b.1) (before xs k) r)
  | [], k, h => by rw [risingFrom_nil]; rfl
  | e :: r, k, h => by
    obtain ⟨h1, h2, h3, h4, h5⟩ := step_prev (d := Ty.dflt TyThing) hw.1 h
    have we : wfD TyAtom e.1 ∧ wfD (.list TyAtom) e.2.1 ∧ wfD (.list .str) e.2.2.1 ∧ wfD (.list TyValue) e.2.2.2 := hw.2 e h4
    rw [P_spec_GoodThings_0_4, p_spec_l11Ref we.1, p_spec_l11Fields we.2.2.1 we.2.2.2, lenOk_pos we.2.1.1, p_spec_GoodThings_m _ e we.2.1 e.2.1 0 rfl, p_spec_GoodThings_l xs hw r (k + 1) h1, h2, risingFrom_cons]
    simp only [Option.bind_some, List.all_cons, before_zero]
    have hg : goodThing e = (goodRef e.1 && decide (e.2.1.length ≤ 50) && (e.2.1.all goodRef && risingFrom lessAtom none e.2.1) && goodFields e.2.2.1 e.2.2.2) := rfl
    rcases h5 with rfl | ⟨h5, h6, h7, h8⟩
    · simp only [hg, before_zero, Int.natCast_zero, Int.lt_irrefl, decide_false, cond_false, and_c, or_c, some_cond, some_dec]
      clear hw we h h1 h2 hg
      grind (splits := 30)
    · have wp : wfD TyAtom _ ∧ _ := hw.2 _ h8
      rw [h6, h7, decide_eq_true (show (0 : Int) < (k : Int) by omega), p_spec_l1Cmp wp.1 we.1]
      simp only [Option.bind_some, hg, cmpAtom_ge, cond_true, and_c, or_c, some_cond, some_dec]
      clear hw we h h1 h2 h7 h8 wp hg
      grind (splits := 30)
theorem p_spec_GoodThings {l : List Thg} (hw : wfD (.list TyThing) l) : P_spec_GoodThings l = some (goodThings l) := by
  rw [P_spec_GoodThings, lenOk_pos hw.1, p_spec_GoodThings_l l hw l 0 rfl, before_zero]
  simp only [goodThings, risingBy, and_c, or_c, some_cond, some_dec]
  clear hw
  grind
theorem p_spec_l12Has_l (a : DAtom) (xs : List DAtom) : P_spec_l12Has_0_2 a xs = some (decide (a ∈ xs)) := by
  induction xs with
  | nil => simp [P_spec_l12Has_0_2]
  | cons e r ih =>
    rw [P_spec_l12Has_0_2, ih]
    by_cases h : e = a
    · subst h; simp
    · have h' : ¬ a = e := fun q => h q.symm
      simp [h, h']
theorem p_spec_l12Has {xs : List DAtom} (h : xs.length ≤ maxLen) (a : DAtom) : P_spec_l12Has xs a = some (decide (a ∈ xs)) := by
  rw [P_spec_l12Has, lenOk_pos h, p_spec_l12Has_l]
theorem p_spec_l11Thing_l (a : DAtom) (xs : List DThing) : ∃ y, P_spec_l11Thing_0_2 a xs = some y ∧ (y.1 ∈ xs ∨ y.1.2.1 = []) := by
  induction xs with
  | nil => exact ⟨_, rfl, .inr rfl⟩
  | cons e r ih =>
    rw [P_spec_l11Thing_0_2]
    by_cases h : e.1 = a
    · subst h
      exact ⟨(e, true), by simp, .inl (by simp)⟩
    · obtain ⟨y, h1, h2⟩ := ih
      refine ⟨y, by simp [h, h1], ?_⟩
      rcases h2 with h2 | h2
      · exact .inl (by simp [h2])
      · exact .inr h2
theorem p_spec_l11Thing {xs : List DThing} (h : xs.length ≤ maxLen) (a : DAtom) : ∃ y, P_spec_l11Thing xs a = some y ∧ (y.1 ∈ xs ∨ y.1.2.1 = []) := by
  rw [P_spec_l11Thing, lenOk_pos h]
  exact p_spec_l11Thing_l a xs
theorem p_impl_yfindThing_l (a : DAtom) (xs : List DThing) : ∀ k, P_impl_yfindThing_0_2_1002 a xs k = P_spec_l11Thing_0_2 a xs := by
  induction xs with
  | nil => intro k; rfl
  | cons e r ih =>
    intro k
    rw [P_impl_yfindThing_0_2_1002, P_spec_l11Thing_0_2, ih]
    have : decide ((k : Int) < 0) = false := decide_eq_false (by omega)
    rw [this]
    rfl
theorem p_impl_yfindThing (xs : List DThing) (a : DAtom) : P_impl_yfindThing xs a = P_spec_l11Thing xs a := by
  rw [P_impl_yfindThing, P_spec_l11Thing, p_impl_yfindThing_l]
def goodHead (h : DHead) : Bool :=
  bif decide (h.1 = 1) || decide (h.1 = 5) || decide (h.1 = 6) then @decide (h.2.1 = (0, 0, ([] : List Int), ([] : List Int))) (Ty.decEq TyAtom h.2.1 (0, 0, ([] : List Int), ([] : List Int))) && decide (h.2.2 = ([] : List Int))
  else bif decide (h.1 = 2) || decide (h.1 = 3) then goodRef h.2.1 && decide (h.2.2 = ([] : List Int))
  else bif decide (h.1 = 4) then @decide (h.2.1 = (0, 0, ([] : List Int), ([] : List Int))) (Ty.decEq TyAtom h.2.1 (0, 0, ([] : List Int), ([] : List Int))) && goodName h.2.2
  else false
theorem p_spec_l10GoodHead {h : DHead} (hw : wfD TyHead h) : P_spec_l10GoodHead h true = some (goodHead h) := by
  have h1 : wfD TyAtom h.2.1 := hw.2.1
  have h2 : wfD .str h.2.2 := hw.2.2
  simp only [P_spec_l10GoodHead, P_spec_l10GoodHead_1_6, p_spec_GoodAtom h1, p_spec_GoodName (wfS_len h2), Option.bind_some, goodHead, goodRef, and_c, or_c, some_cond, some_dec, cond_true]
  clear hw h1 h2
  grind (splits := 30)
theorem p_impl_ygoodHead {h : DHead} (hw : wfD TyHead h) : P_impl_ygoodHead h false = some (goodHead h) := by
  have h1 : wfD TyAtom h.2.1 := hw.2.1
  have h2 : wfD .str h.2.2 := hw.2.2
  simp only [P_impl_ygoodHead, P_impl_ygoodHead_1_6, P_impl_ygoodHead_1_11, p_impl_ygoodRef h1, p_impl_GoodName (wfS_len h2), T_impl_yzeroAtom, Option.bind_some, goodHead, and_c, or_c, some_cond, some_dec, Bool.not_false]
  clear hw h1 h2
  grind (splits := 30)
theorem p_spec_l1Sorted_sh {p : Nat} {x : DAtom} : ∀ (d j : Nat) (ys : List DAtom), j = p + d → j < ys.length → ys.length ≤ maxLen →
    ∃ zs, zs.length = ys.length ∧ (∀ a, a ∈ zs ↔ a = x ∨ ∃ i, i ≠ j ∧ ys[i]? = some a) ∧ ∀ (K : List DAtom → Option (List DAtom)) m, d + 1 ≤ m → P_spec_l1Sorted_0_11 K p x m ys j = K zs := by
  intro d
  induction d with
  | succ d ih =>
    intro j ys hp hj hl
    have hpj : p < j := by omega
    · obtain ⟨j', rfl⟩ : ∃ j', j = j' + 1 := ⟨j - 1, by omega⟩
      have hw : IntKind.wrap .i64 (((j' + 1 : Nat) : Int) - 1) = (j' : Int) := wrap_pred hl (by omega)
      obtain ⟨zs, h1, h2, h3⟩ := ih j' (ys.set (j' + 1) (rd ys (j' : Int) (Ty.dflt TyAtom))) (by omega) (by rw [List.length_set]; omega) (by rw [List.length_set]; exact hl)
      refine ⟨zs, by rw [h1, List.length_set], ?_, ?_⟩
      · intro a
        rw [h2]
        have hrd : rd ys (j' : Int) (Ty.dflt TyAtom) = ys[j'] := rd_nat (List.getElem?_eq_getElem (by omega))
        constructor
        · rintro (h | ⟨i, hi, h⟩)
          · exact .inl h
          · rw [List.getElem?_set] at h
            split at h
            · cases h; exact .inr ⟨j', by omega, by rw [hrd]; exact List.getElem?_eq_getElem (by omega)⟩
            · rename_i hne; exact .inr ⟨i, fun e => hne e.symm, h⟩
        · rintro (h | ⟨i, hi, h⟩)
          · exact .inl h
          · right
            by_cases hij : i = j'
            · subst hij
              refine ⟨i + 1, by omega, ?_⟩
              rw [List.getElem?_set, if_pos rfl, if_pos hj, hrd]
              rw [List.getElem?_eq_getElem (by omega)] at h
              exact h
            · exact ⟨i, hij, by rw [List.getElem?_set, if_neg (fun e => hi e.symm)]; exact h⟩
      · intro K m hm
        obtain ⟨m, rfl⟩ : ∃ m', m = m' + 1 := ⟨m - 1, by omega⟩
        rw [P_spec_l1Sorted_0_11]
        have d1 : decide ((p : Int) < ((j' + 1 : Nat) : Int)) = true := decide_eq_true (by omega)
        have d2 : inB (j' : Int) ys.length = true := inB_nat2 (by omega)
        have d3 : inB ((j' + 1 : Nat) : Int) ys.length = true := inB_nat2 hj
        simp only [d1, hw, d2, d3, cond_true, Bool.and_self, Int.toNat_natCast]
        exact h3 K m (by omega)
  | zero =>
    intro j ys hp hj hl
    · have hjp : j = p := by omega
      subst hjp
      refine ⟨ys.set j x, by simp, ?_, ?_⟩
      · intro a
        constructor
        · intro h
          obtain ⟨i, hi⟩ := List.getElem?_of_mem h
          rw [List.getElem?_set] at hi
          split at hi
          · cases hi; exact .inl rfl
          · rename_i hne; exact .inr ⟨i, fun e => hne e.symm, hi⟩
        · rintro (rfl | ⟨i, hi, h⟩)
          · exact List.mem_of_getElem? (i := j) (by rw [List.getElem?_set, if_pos rfl, if_pos hj])
          · exact List.mem_of_getElem? (i := i) (by rw [List.getElem?_set, if_neg (fun e => hi e.symm)]; exact h)
      · intro K m hm
        obtain ⟨m, rfl⟩ : ∃ m', m = m' + 1 := ⟨m - 1, by omega⟩
        rw [P_spec_l1Sorted_0_11]
        have d1 : decide ((j : Int) < (j : Int)) = false := decide_eq_false (by omega)
        have d3 : inB (j : Int) ys.length = true := inB_nat2 hj
        simp only [d1, d3, cond_true, cond_false, Bool.and_self, Int.toNat_natCast]
theorem p_spec_l1Sorted_in {x1 : List DAtom} {x : DAtom} {k : Nat} (hk : k ≤ x1.length) (hl : x1.length ≤ 1000000) (hx : wfD TyAtom x) (h1 : ∀ a ∈ x1, wfD TyAtom a) (hc : ∀ a b : DAtom, cmpAtom a b = 0 → a = b) :
    ∃ zs, zs.length ≤ x1.length + 1 ∧ (∀ a, a ∈ zs ↔ a = x ∨ a ∈ x1) ∧ ∀ (K : List DAtom → Option (List DAtom)) m, x1.length + 2 ≤ m → P_spec_l1Sorted_1_8 K m x1 k x = K zs := by
  have hmax : x1.length + 1 ≤ maxLen := by unfold maxLen; omega
  obtain ⟨zs, z1, z2, z3⟩ := p_spec_l1Sorted_sh (p := k) (x := x) (x1.length - k) x1.length (x1 ++ [x]) (by omega) (by simp) (by simpa using hmax)
  have hmem : ∀ a, a ∈ zs ↔ a = x ∨ a ∈ x1 := by
    intro a
    rw [z2]
    constructor
    · rintro (h | ⟨i, hi, h⟩)
      · exact .inl h
      · right
        rw [List.getElem?_append] at h
        split at h
        · exact List.mem_of_getElem? h
        · have : i - x1.length ≠ 0 := by omega
          rw [List.getElem?_eq_none (by simp; omega)] at h
          cases h
    · rintro (h | h)
      · exact .inl h
      · obtain ⟨i, hi⟩ := List.getElem?_of_mem h
        have hlt : i < x1.length := (List.getElem?_eq_some_iff.1 hi).1
        exact .inr ⟨i, by omega, by rw [List.getElem?_append_left hlt]; exact hi⟩
  have hroom : (decide (((x1.length : Int) + (([x] : List DAtom).length : Int)) * 48 ≤ room) && decide ((x1.length : Int) + (([x] : List DAtom).length : Int) ≤ room)) = true := by
    rw [room_eq]; simp; omega
  have hpos : IntKind.wrap .i64 (((x1 ++ ([x] : List DAtom)).length : Int) - 1) = ((x1.length : Nat) : Int) := by
    rw [List.length_append]
    exact wrap_pred hmax (by omega)
  by_cases h0 : k = 0
  · subst h0
    refine ⟨zs, by rw [z1]; simp, hmem, fun K m hm => ?_⟩
    rw [P_spec_l1Sorted_1_8]
    simp only [Int.natCast_zero, hroom, hpos, cond_true]
    exact z3 K m (by omega)
  · obtain ⟨k', rfl⟩ : ∃ k', k = k' + 1 := ⟨k - 1, by omega⟩
    have hw : IntKind.wrap .i64 (((k' + 1 : Nat) : Int) - 1) = (k' : Int) := wrap_pred (by unfold maxLen; omega) hk
    have hin : inB (k' : Int) x1.length = true := inB_nat2 (by omega)
    have hrd : rd x1 (k' : Int) (Ty.dflt TyAtom) = x1[k'] := rd_nat (List.getElem?_eq_getElem (by omega))
    have hcm := p_spec_l1Cmp (h1 x1[k'] (List.getElem_mem _)) hx
    have d1 : decide ((0 : Int) < ((k' + 1 : Nat) : Int)) = true := decide_eq_true (by omega)
    by_cases he : cmpAtom x1[k'] x = 0
    · refine ⟨x1, by omega, fun a => ⟨.inr, ?_⟩, fun K m hm => ?_⟩
      · rintro (h | h)
        · rw [h, ← hc _ _ he]; exact List.getElem_mem _
        · exact h
      · rw [P_spec_l1Sorted_1_8]
        simp only [d1, hw, hin, hrd, hcm, Option.bind_some, he, decide_true, cond_true]
    · refine ⟨zs, by rw [z1]; simp, hmem, fun K m hm => ?_⟩
      rw [P_spec_l1Sorted_1_8]
      simp only [d1, hw, hin, hrd, hcm, Option.bind_some, he, decide_false, cond_true, cond_false, hroom, hpos]
      exact z3 K m (by omega)
theorem p_spec_l1Sorted_pos {x1 : List DAtom} {x : DAtom} (hl : x1.length ≤ 1000000) (hx : wfD TyAtom x) (h1 : ∀ a ∈ x1, wfD TyAtom a) (hc : ∀ a b : DAtom, cmpAtom a b = 0 → a = b) : ∀ (k : Nat), k ≤ x1.length →
    ∃ zs, zs.length ≤ x1.length + 1 ∧ (∀ a, a ∈ zs ↔ a = x ∨ a ∈ x1) ∧ ∀ (K : List DAtom → Option (List DAtom)) m, x1.length + k + 4 ≤ m → P_spec_l1Sorted_0_6 K x1 x m k = K zs := by
  intro k
  induction k with
  | zero =>
    intro hk
    obtain ⟨zs, z1, z2, z3⟩ := p_spec_l1Sorted_in hk hl hx h1 hc
    refine ⟨zs, z1, z2, fun K m hm => ?_⟩
    obtain ⟨m, rfl⟩ : ∃ m', m = m' + 1 := ⟨m - 1, by omega⟩
    rw [P_spec_l1Sorted_0_6]
    have d1 : decide ((0 : Int) < ((0 : Nat) : Int)) = false := decide_eq_false (by omega)
    simp only [d1, cond_false]
    exact z3 K m (by omega)
  | succ k ih =>
    intro hk
    have hw : IntKind.wrap .i64 (((k + 1 : Nat) : Int) - 1) = (k : Int) := wrap_pred (by unfold maxLen; omega) hk
    have hin : inB (k : Int) x1.length = true := inB_nat2 (by omega)
    have hrd : rd x1 (k : Int) (Ty.dflt TyAtom) = x1[k] := rd_nat (List.getElem?_eq_getElem (by omega))
    have hcm := p_spec_l1Cmp (h1 x1[k] (List.getElem_mem _)) hx
    have d1 : decide ((0 : Int) < ((k + 1 : Nat) : Int)) = true := decide_eq_true (by omega)
    by_cases hg : 0 < cmpAtom x1[k] x
    · obtain ⟨zs, z1, z2, z3⟩ := ih (by omega)
      refine ⟨zs, z1, z2, fun K m hm => ?_⟩
      obtain ⟨m, rfl⟩ : ∃ m', m = m' + 1 := ⟨m - 1, by omega⟩
      rw [P_spec_l1Sorted_0_6]
      simp only [d1, hw, hin, hrd, hcm, Option.bind_some, hg, decide_true, cond_true]
      exact z3 K m (by omega)
    · obtain ⟨zs, z1, z2, z3⟩ := p_spec_l1Sorted_in hk hl hx h1 hc
      refine ⟨zs, z1, z2, fun K m hm => ?_⟩
      obtain ⟨m, rfl⟩ : ∃ m', m = m' + 1 := ⟨m - 1, by omega⟩
      rw [P_spec_l1Sorted_0_6]
      simp only [d1, hw, hin, hrd, hcm, Option.bind_some, hg, decide_false, cond_true, cond_false]
      exact z3 K m (by omega)
theorem p_spec_l1Sorted_l (hc : ∀ a b : DAtom, cmpAtom a b = 0 → a = b) : ∀ (rest x1 : List DAtom), x1.length + rest.length ≤ 1000000 → (∀ a ∈ rest, wfD TyAtom a) → (∀ a ∈ x1, wfD TyAtom a) →
    ∃ zs, (∀ a, a ∈ zs ↔ a ∈ x1 ∨ a ∈ rest) ∧ zs.length ≤ x1.length + rest.length ∧ ∀ m, 2 * (x1.length + rest.length) + 8 ≤ m → P_spec_l1Sorted_0_3 m rest x1 = some zs := by
  intro rest
  induction rest with
  | nil => intro x1 _ _ _; exact ⟨x1, fun a => by simp, by simp, fun m _ => rfl⟩
  | cons e rest ih =>
    intro x1 hl hr h1
    rw [List.length_cons] at hl
    obtain ⟨zs, z1, z2, z3⟩ := p_spec_l1Sorted_pos (x1 := x1) (x := e) (by omega) (hr e (by simp)) h1 hc x1.length (Nat.le_refl _)
    obtain ⟨ys, y1, y2, y3⟩ := ih zs (by omega) (fun a ha => hr a (by simp [ha])) (fun a ha => by
      rcases (z2 a).1 ha with rfl | h
      · exact hr a (by simp)
      · exact h1 a h)
    refine ⟨ys, fun a => ?_, by rw [List.length_cons]; omega, fun m hm => ?_⟩
    · rw [y1, z2, List.mem_cons]
      constructor
      · rintro ((h | h) | h)
        · exact .inr (.inl h)
        · exact .inl h
        · exact .inr (.inr h)
      · rintro (h | h | h)
        · exact .inl (.inr h)
        · exact .inl (.inl h)
        · exact .inr h
    · rw [List.length_cons] at hm
      rw [P_spec_l1Sorted_0_3, z3 _ m (by omega)]
      exact y3 m (by omega)
theorem p_spec_l1Sorted (hc : ∀ a b : DAtom, cmpAtom a b = 0 → a = b) {xs : List DAtom} (hl : xs.length ≤ 1000000) (hw : ∀ a ∈ xs, wfD TyAtom a) : ∃ zs, (∀ a, a ∈ zs ↔ a ∈ xs) ∧ zs.length ≤ xs.length ∧ E_spec_l1Sorted xs = some zs := by
  obtain ⟨zs, z1, z2, z3⟩ := p_spec_l1Sorted_l hc xs [] (by simpa using hl) hw (fun a ha => by simp at ha)
  refine ⟨zs, fun a => by rw [z1]; simp, by simpa using z2, evOpt_of ⟨2 * xs.length + 8, fun m hm => ?_⟩⟩
  show P_spec_l1Sorted m xs = some zs
  rw [P_spec_l1Sorted, lenOk_pos (by unfold maxLen; omega)]
  exact z3 m (by simpa using hm)
def addAll (acc : List DAtom) : List DAtom → List DAtom
  | [] => acc
  | e :: r => addAll (if e ∈ acc then acc else acc ++ [e]) r
theorem getM_true (e : DAtom) : ∀ (xs : List DAtom), getM TyAtom (xs.map fun a => (a, true)) e false = decide (e ∈ xs)
  | [] => by simp [getM]
  | x :: xs => by
    rw [List.map_cons, getM, getM_true e xs]
    by_cases h : e = x
    · subst h; simp
    · simp [h]
theorem setM_true (e : DAtom) : ∀ (xs : List DAtom), e ∉ xs → setM TyAtom (xs.map fun a => (a, true)) e true = (xs ++ [e]).map fun a => (a, true)
  | [], _ => rfl
  | x :: xs, h => by
    have h1 : ¬ e = x := fun q => h (by simp [q])
    rw [List.map_cons, setM, setM_true e xs (fun q => h (by simp [q]))]
    simp [h1]
theorem p_spec_l12Up_in {K0 : List DAtom → Int → Option (List DAtom)} {x3 : Int} : ∀ (ups x2 : List DAtom), x2.length + ups.length ≤ 1000000 → P_spec_l12Up_0_7 K0 x3 ups x2 = K0 (addAll x2 ups) (IntKind.wrap .i64 (x3 + 1))
  | [], x2, _ => rfl
  | e :: r, x2, hl => by
    rw [List.length_cons] at hl
    rw [P_spec_l12Up_0_7, p_spec_l12Has (by unfold maxLen; omega), Option.bind_some, addAll]
    by_cases h : e ∈ x2
    · simp only [h, decide_true, Bool.not_true, cond_false, if_true]
      exact p_spec_l12Up_in r x2 (by omega)
    · have hroom : (decide (((x2.length : Int) + (([(e)] : List DAtom).length : Int)) * 48 ≤ room) && decide ((x2.length : Int) + (([(e)] : List DAtom).length : Int) ≤ room)) = true := by
        rw [room_eq]; simp; omega
      simp only [h, decide_false, Bool.not_false, cond_true, hroom, if_false]
      exact p_spec_l12Up_in r _ (by rw [List.length_append]; simp; omega)
theorem p_impl_yancestors_in {K0 : List DAtom → List (DAtom × Bool) → Option (List (DAtom × Bool))} (k : Nat) : ∀ (ups x2 : List DAtom), k < x2.length → x2.length + ups.length ≤ 1000000 →
    P_impl_yancestors_0_7 K0 ups (x2.drop k) (x2.map fun a => (a, true)) = K0 ((addAll x2 ups).drop (k + 1)) ((addAll x2 ups).map fun a => (a, true))
  | [], x2, hk, hl => by
    have h1 : (1 : Int) ≤ (((x2.drop k).length : Nat) : Int) := by rw [List.length_drop]; omega
    rw [P_impl_yancestors_0_7, addAll]
    simp only [h1, decide_true, Bool.and_self, cond_true]
    congr 1
    unfold cut
    rw [Int.toNat_natCast, List.take_length, show Int.toNat 1 = 1 from rfl, List.drop_drop]
  | e :: r, x2, hk, hl => by
    rw [List.length_cons] at hl
    rw [P_impl_yancestors_0_7, getM_true, addAll]
    by_cases h : e ∈ x2
    · simp only [h, decide_true, Bool.not_true, cond_false, if_true]
      exact p_impl_yancestors_in k r x2 hk (by omega)
    · have hroom : (decide ((((x2.drop k).length : Int) + (([(e)] : List DAtom).length : Int)) * 48 ≤ room) && decide (((x2.drop k).length : Int) + (([(e)] : List DAtom).length : Int) ≤ room)) = true := by
        rw [room_eq]; simp; omega
      have hd : x2.drop k ++ [e] = (x2 ++ [e]).drop k := by rw [List.drop_append_of_le_length (by omega)]
      simp only [h, decide_false, Bool.not_false, cond_true, hroom, if_false, setM_true e x2 h, hd]
      exact p_impl_yancestors_in k r _ (by rw [List.length_append]; omega) (by rw [List.length_append]; simp; omega)
theorem addAll_mem {U : List DAtom} : ∀ (ups x2 : List DAtom), (∀ a ∈ ups, a ∈ U) → (∀ a ∈ x2, a ∈ U) → x2.Nodup → (∀ a ∈ addAll x2 ups, a ∈ U) ∧ (addAll x2 ups).Nodup ∧ x2.length ≤ (addAll x2 ups).length
  | [], x2, _, h2, h3 => ⟨h2, h3, Nat.le_refl _⟩
  | e :: r, x2, h1, h2, h3 => by
    rw [addAll]
    by_cases h : e ∈ x2
    · rw [if_pos h]
      exact addAll_mem r x2 (fun a ha => h1 a (by simp [ha])) h2 h3
    · rw [if_neg h]
      obtain ⟨q1, q2, q3⟩ := addAll_mem (U := U) r (x2 ++ [e]) (fun a ha => h1 a (by simp [ha])) (fun a ha => by
        rcases List.mem_append.1 ha with ha | ha
        · exact h2 a ha
        · rw [List.mem_singleton.1 ha]; exact h1 e (by simp)) (by
        rw [List.nodup_append]
        exact ⟨h3, by simp, fun a ha b hb => by rw [List.mem_singleton.1 hb]; exact fun q => h (q ▸ ha)⟩)
      refine ⟨q1, q2, ?_⟩
      rw [List.length_append] at q3
      exact Nat.le_trans (Nat.le_add_right _ _) q3
theorem nodup_len {α : Type} [DecidableEq α] : ∀ {S D : List α}, S.Nodup → (∀ x ∈ S, x ∈ D) → S.length ≤ D.length
  | [], D, _, _ => Nat.zero_le _
  | x :: S, D, hn, hs => by
    rw [List.nodup_cons] at hn
    have h1 := nodup_len (D := D.erase x) hn.2 (fun y hy => (List.mem_erase_of_ne (fun e => by subst e; exact hn.1 hy)).2 (hs y (by simp [hy])))
    have h2 := List.length_erase_of_mem (hs x (by simp))
    have h3 : 0 < D.length := List.length_pos_of_mem (hs x (by simp))
    rw [List.length_cons]; omega
theorem walks_l {a0 : List DThing} (h0 : a0.length ≤ maxLen) {U : List DAtom} (hU : ∀ t ∈ a0, ∀ a ∈ t.2.1, a ∈ U) (hUl : U.length ≤ 400000) (hups : ∀ t ∈ a0, t.2.1.length ≤ 400000) : ∀ (d k : Nat) (x2 : List DAtom), U.length ≤ k + d → k ≤ x2.length → (∀ a ∈ x2, a ∈ U) → x2.Nodup →
    ∃ L, (∀ a ∈ L, a ∈ U) ∧ L.Nodup ∧ ∀ m, d + 1 ≤ m → P_impl_yancestors_0_3 a0 m (x2.drop k) (x2.map fun a => (a, true)) = some (L.map fun a => (a, true)) ∧ P_spec_l12Up_0_3 a0 m x2 k = Option.bind (E_spec_l1Sorted L) some := by
  intro d
  induction d with
  | zero =>
    intro k x2 hd hk hx hn
    have hlen := nodup_len hn hx
    have hkk : k = x2.length := by omega
    subst hkk
    refine ⟨x2, hx, hn, fun m hm => ?_⟩
    obtain ⟨m, rfl⟩ : ∃ m', m = m' + 1 := ⟨m - 1, by omega⟩
    rw [P_impl_yancestors_0_3, P_spec_l12Up_0_3]
    simp
  | succ d ih =>
    intro k x2 hd hk hx hn
    have hlen := nodup_len hn hx
    by_cases hkk : k = x2.length
    · subst hkk
      refine ⟨x2, hx, hn, fun m hm => ?_⟩
      obtain ⟨m, rfl⟩ : ∃ m', m = m' + 1 := ⟨m - 1, by omega⟩
      rw [P_impl_yancestors_0_3, P_spec_l12Up_0_3]
      simp
    · have hlt : k < x2.length := by omega
      obtain ⟨y, hy, hy2⟩ := p_spec_l11Thing h0 x2[k]
      have hin : ∀ a ∈ y.1.2.1, a ∈ U := by
        rcases hy2 with h | h
        · exact hU _ h
        · rw [h]; intro a ha; cases ha
      have hul : y.1.2.1.length ≤ 400000 := by
        rcases hy2 with h | h
        · exact hups _ h
        · rw [h]; simp
      obtain ⟨q1, q2, q3⟩ := addAll_mem (U := U) y.1.2.1 x2 hin hx hn
      obtain ⟨L, l1, l2, l3⟩ := ih (k + 1) (addAll x2 y.1.2.1) (by omega) (by omega) q1 q2
      refine ⟨L, l1, l2, fun m hm => ?_⟩
      obtain ⟨m, rfl⟩ : ∃ m', m = m' + 1 := ⟨m - 1, by omega⟩
      obtain ⟨r1, r2⟩ := l3 m (by omega)
      have hrd : rd x2 (k : Int) (Ty.dflt TyAtom) = x2[k] := rd_nat (List.getElem?_eq_getElem hlt)
      have hrd2 : rd (x2.drop k) (0 : Int) (Ty.dflt TyAtom) = x2[k] := rd_nat (k := 0) (by rw [List.getElem?_drop, Nat.add_zero]; exact List.getElem?_eq_getElem hlt)
      have b1 : decide ((0 : Int) < ((x2.drop k).length : Int)) = true := decide_eq_true (by rw [List.length_drop]; omega)
      have b2 : inB 0 (x2.drop k).length = true := inB_iff.2 (by rw [List.length_drop]; omega)
      have b3 : decide ((k : Int) < (x2.length : Int)) = true := decide_eq_true (by omega)
      constructor
      · rw [P_impl_yancestors_0_3]
        simp only [b1, b2, cond_true, hrd2, p_impl_yfindThing, hy, Option.bind_some]
        rw [lenOk_pos (by unfold maxLen; omega), p_impl_yancestors_in k _ _ hlt (by omega)]
        exact r1
      · rw [P_spec_l12Up_0_3]
        simp only [b3, inB_nat2 hlt, cond_true, hrd, hy, Option.bind_some]
        rw [lenOk_pos (by unfold maxLen; omega), p_spec_l12Up_in _ _ (by omega), wrap_succ (len := maxLen) (Nat.le_refl _) (by unfold maxLen; omega)]
        exact r2
theorem p_matches (hc : ∀ a b : DAtom, cmpAtom a b = 0 → a = b) {a0 : List DThing} (h0 : a0.length ≤ maxLen) {U : List DAtom} (hU : ∀ t ∈ a0, ∀ a ∈ t.2.1, a ∈ U) (hUl : U.length ≤ 400000) (hups : ∀ t ∈ a0, t.2.1.length ≤ 400000) (h : DHead) (x : DAtom) (hx : x ∈ U) (hw : ∀ a ∈ U, wfD TyAtom a) :
    ∃ b, P_spec_l12Matches a0 h x = some b ∧ P_impl_yheadMatches a0 h x = some b := by
  obtain ⟨L, l1, l2, l3⟩ := walks_l h0 hU hUl hups U.length 0 [x] (by omega) (by simp) (fun a ha => by rw [List.mem_singleton.1 ha]; exact hx) (by simp)
  have hLl := nodup_len l2 l1
  obtain ⟨zs, z1, z2, z3⟩ := p_spec_l1Sorted hc (xs := L) (by omega) (fun a ha => hw a (l1 a ha))
  have e1 : E_impl_yancestors a0 x = some (L.map fun a => (a, true)) := evOpt_of ⟨U.length + 1, fun m hm => (l3 m hm).1⟩
  have e2 : E_spec_l12Up a0 x = some zs := evOpt_of ⟨U.length + 1, fun m hm => by
    show P_spec_l12Up_0_3 a0 m [x] 0 = some zs
    have := (l3 m hm).2
    rw [z3] at this
    exact this⟩
  have hin : decide (h.2.1 ∈ zs) = decide (h.2.1 ∈ L) := by rw [decide_eq_decide]; exact z1 _
  rw [P_spec_l12Matches, P_impl_yheadMatches, e1, e2]
  have hg := getM_true h.2.1 L
  simp only [Option.bind_some, p_spec_l12Has (show zs.length ≤ maxLen by unfold maxLen; omega), hg, hin]
  cases decide (h.1 = 1) <;> cases decide (h.1 = 2) <;> cases decide (h.1 = 3) <;> cases decide (h.1 = 4) <;> exact ⟨_, rfl, rfl⟩
theorem same_HeadMatches {l : List DThing} {h : DHead} {x : DAtom} (hl : wfD (.list TyThing) l) (hh : wfD TyHead h) (hx : wfD TyAtom x) : ∃ b, P_spec_HeadMatches l h x = some b ∧ P_impl_HeadMatches l h x = some b := by
  rw [P_spec_HeadMatches, P_impl_HeadMatches, p_spec_GoodThings hl, p_impl_GoodThings hl, p_spec_l10GoodHead hh, p_impl_ygoodHead hh, p_spec_l11Ref hx, p_impl_ygoodRef hx]
  simp only [Option.bind_some]
  cases hg : goodThings l with
  | false => exact ⟨_, rfl, rfl⟩
  | true =>
  cases goodHead h with
  | false => exact ⟨_, rfl, rfl⟩
  | true =>
  cases goodRef x with
  | false => exact ⟨_, rfl, rfl⟩
  | true =>
    simp only [cond_true]
    unfold goodThings at hg
    rw [Bool.and_eq_true, Bool.and_eq_true, decide_eq_true_eq, List.all_eq_true] at hg
    obtain ⟨hg1, hg2, _⟩ := hg
    have hups : ∀ t ∈ l, t.2.1.length ≤ 50 := fun t ht => by
      have := hg2 t ht
      unfold goodThing at this
      simp only [Bool.and_eq_true, decide_eq_true_eq] at this
      exact this.1.1.2
    have hfl : ∀ l : List DThing, (∀ t ∈ l, t.2.1.length ≤ 50) → (l.flatMap fun t => t.2.1).length ≤ 50 * l.length := by
      intro l
      induction l with
      | nil => intro _; simp
      | cons t l ih =>
        intro h
        have h1 := h t (by simp)
        have h2 := ih (fun u hu => h u (by simp [hu]))
        rw [List.flatMap_cons, List.length_append, List.length_cons]
        omega
    have hU := hfl l hups
    obtain ⟨b, h1, h2⟩ := p_matches (fun a b => cmpAtom_eq) (a0 := l) (by unfold maxLen; omega) (U := x :: l.flatMap fun t => t.2.1) (fun t ht a ha => List.mem_cons_of_mem _ (List.mem_flatMap.2 ⟨t, ht, ha⟩)) (by rw [List.length_cons]; omega) (fun t ht => by have := hups t ht; omega) h x (by simp) (by
      intro a ha
      rcases List.mem_cons.1 ha with rfl | ha
      · exact hx
      · obtain ⟨t, ht, ha⟩ := List.mem_flatMap.1 ha
        have wt : wfD TyAtom t.1 ∧ wfD (.list TyAtom) t.2.1 ∧ _ := hl.2 t ht
        exact wt.2.1.2 a ha)
    exact ⟨b, by rw [h1]; rfl, by rw [h2]; rfl⟩
theorem law_HeadMatches (l : List DThing) (h : DHead) (x : DAtom) (hl : wfD (.list TyThing) l) (hh : wfD TyHead h) (hx : wfD TyAtom x) : P_laws_FnExactHeadMatches l h x = some true := by
  rw [P_laws_FnExactHeadMatches, szC_some hl (by omega) (by omega)]
  simp only [Option.bind_some]
  cases d1 : decide (lessZ 1048576 (Ty.size (.list TyThing) l) < 0) with
  | true => rfl
  | false =>
  obtain ⟨b1, b2, b3⟩ := bud_of d1
  rw [szC_some hh b2 (by omega)]
  simp only [Option.bind_some, cond_false]
  cases d2 : decide (lessZ (lessZ 1048576 (Ty.size (.list TyThing) l)) (Ty.size TyHead h) < 0) with
  | true => rfl
  | false =>
  obtain ⟨c1, c2, c3⟩ := bud_of d2
  rw [szC_some hx c2 (by omega)]
  simp only [Option.bind_some, cond_false]
  cases d3 : decide (lessZ (lessZ (lessZ 1048576 (Ty.size (.list TyThing) l)) (Ty.size TyHead h)) (Ty.size TyAtom x) < 0) with
  | true => rfl
  | false =>
  obtain ⟨e1, e2, e3⟩ := bud_of d3
  obtain ⟨b, s1, s2⟩ := same_HeadMatches hl hh hx
  simp only [cond_false, toC_some hl (by omega), toC_some hh (by omega), toC_some hx (by omega), Option.bind_some, s1, s2, eqC_some hl]
  simp

end Go.Ab
