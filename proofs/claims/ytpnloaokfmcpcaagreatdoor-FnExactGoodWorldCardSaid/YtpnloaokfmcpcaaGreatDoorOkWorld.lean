/-
  What the functions come to, in plain words.
-/
import Derived.Test.YtpnloaokfmcpcaaGreatDoorGenWorld
import Derived.Test.YtpnloaokfmcpcaaGreatDoorPlain1
import Derived.Test.YtpnloaokfmcpcaaGreatDoorAb24
namespace Go.Ab
open Go.Proofs
noncomputable section
theorem p_spec_l1Printed_l (s : List Int) : P_spec_l1Printed_0_2 s = some (printed s) := by
  induction s with
  | nil => rfl
  | cons e r ih =>
    simp only [P_spec_l1Printed_0_2, ih, printed, List.all_cons, isPrint]
    grind
theorem p_spec_l1Printed {s : List Int} (h : s.length ≤ maxLen) : P_spec_l1Printed s = some (printed s) := by
  rw [P_spec_l1Printed, lenOk_pos h, p_spec_l1Printed_l]
theorem p_impl_yprinted_l (s : List Int) : P_impl_yprinted_0_4 s = some (printed s) := by
  induction s with
  | nil => rfl
  | cons e r ih =>
    simp only [P_impl_yprinted_0_4, ih, printed, List.all_cons, isPrint]
    grind
theorem p_impl_yprinted {s : List Int} (lo hi : Int) (h : s.length ≤ maxLen) : P_impl_yprinted s lo hi = some (printedIn s lo hi) := by
  rw [P_impl_yprinted, lenOk_pos h, p_impl_yprinted_l, printedIn, printed]
  grind
theorem t_spec_l1Digit (x : Int) : T_spec_l1Digit x = isDigit x := by unfold T_spec_l1Digit isDigit; grind
theorem t_impl_ydigit (x : Int) : T_impl_ydigit x = isDigit x := by unfold T_impl_ydigit isDigit; grind
theorem t_spec_l1Letter (x : Int) : T_spec_l1Letter x = isLetter x := by unfold T_spec_l1Letter isLetter; grind
theorem t_impl_yletter (x : Int) : T_impl_yletter x = isLetter x := by unfold T_impl_yletter isLetter; grind
theorem t_impl_ywordByte (x : Int) : T_impl_ywordByte x = isWord x := by unfold T_impl_ywordByte isWord; rw [t_impl_yletter, t_impl_ydigit]; grind
theorem p_spec_GoodName_l (s : List Int) : P_spec_GoodName_0_4 s = some (s.all isWord) := by
  induction s with
  | nil => rfl
  | cons e r ih =>
    simp only [P_spec_GoodName_0_4, ih, List.all_cons, isWord, t_spec_l1Letter, t_spec_l1Digit]
    grind
theorem p_spec_GoodName {s : List Int} (h : s.length ≤ maxLen) : P_spec_GoodName s = some (goodName s) := by
  rw [P_spec_GoodName, lenOk_pos h, p_spec_GoodName_l, goodName]
  simp only [t_spec_l1Digit, inB]
  grind
theorem p_impl_GoodName_l (s : List Int) : P_impl_GoodName_0_4 s = some (s.all isWord) := by
  induction s with
  | nil => rfl
  | cons e r ih =>
    simp only [P_impl_GoodName_0_4, ih, List.all_cons, t_impl_ywordByte]
    grind
theorem p_impl_GoodName {s : List Int} (h : s.length ≤ maxLen) : P_impl_GoodName s = some (goodName s) := by
  rw [P_impl_GoodName, lenOk_pos h, p_impl_GoodName_l, goodName]
  simp only [t_impl_ydigit, inB]
  cases s with
  | nil => rfl
  | cons x s => grind
theorem p_spec_l1Pow2_l (x : Int) (hx : x ≤ 62) : ∀ (m : Nat) (k : Int), 0 ≤ k → k ≤ x → x - k < m → P_spec_l1Pow2_0_3 x m (2 ^ k.toNat) k = some (2 ^ x.toNat) := by
  intro m
  induction m with
  | zero => intro k _ _ h; omega
  | succ m ih =>
    intro k h0 hk hm
    rw [P_spec_l1Pow2_0_3]
    by_cases h : k < x
    · have e : (2 : Int) ^ k.toNat * 2 = 2 ^ (k + 1).toNat := by
        rw [show (k + 1).toNat = k.toNat + 1 by omega, Int.pow_succ]
      have hb : (2 : Int) ^ (k + 1).toNat ≤ 2 ^ 62 := by
        have := Nat.pow_le_pow_right (n := 2) (by omega) (show (k + 1).toNat ≤ 62 by omega)
        exact_mod_cast this
      have hp : (0 : Int) < 2 ^ (k + 1).toNat := Int.pow_pos (by omega)
      rw [decide_eq_true h, e, wrapU (by omega), wrapU (by omega)]
      exact ih _ (by omega) (by omega) (by omega)
    · have : k = x := by omega
      subst this
      rw [decide_eq_false h]; rfl
theorem p_spec_l1Pow2 {x : Int} (h0 : 0 ≤ x) (hx : x ≤ 62) : E_spec_l1Pow2 x = some (pow2 x) := by
  refine evOpt_of ⟨x.toNat + 1, fun m hm => ?_⟩
  have := p_spec_l1Pow2_l x hx m 0 (by omega) h0 (by omega)
  exact this
theorem p_spec_l1Block {a : Atm} (h0 : 0 ≤ a.2.1) (h1 : a.2.1 ≤ 9223372036854775807) (h : a.2.1.tmod 64 ≤ 32) : P_spec_l1Block a = some (a.2.1.tdiv 64, pow2 (32 - a.2.1.tmod 64)) := by
  have hm := Int.tmod_nonneg 64 h0
  have hd : a.2.1.tdiv 64 = a.2.1 / 64 := Int.tdiv_eq_ediv_of_nonneg h0
  rw [P_spec_l1Block, wrapU (by omega), p_spec_l1Pow2 (by omega) (by omega), wrapU (by omega)]
  rfl
theorem p_spec_GoodAtom {a : Atm} (hw : wfD TyAtom a) : P_spec_GoodAtom a = some (goodAtom a) := by
  have hw2 : inK .i64 a.1 = true ∧ inK .i64 a.2.1 = true ∧ wfD .str a.2.2.1 ∧ wfD .str a.2.2.2 := hw
  have h1 := wfS_len hw2.2.2.1
  have h2 := wfS_len hw2.2.2.2
  have hn := hw2.2.1
  rw [inK_iff, min_i64, max_i64] at hn
  have hp : E_spec_l1Pow2 32 = some 4294967296 := p_spec_l1Pow2 (x := 32) (by omega) (by omega)
  have hb := p_spec_l1Block (a := a)
  have hd : 0 ≤ a.2.1 → a.2.1.tdiv 64 = a.2.1 / 64 := fun h => Int.tdiv_eq_ediv_of_nonneg h
  have hw1 : IntKind.wrap .i64 (4294967296 - 1) = 4294967295 := wrapU (by omega)
  have hpos : pow2 (32 - a.2.1.tmod 64) ≠ 0 := by unfold pow2; exact Int.ne_of_gt (Int.pow_pos (by omega))
  have hwr : 0 ≤ a.2.1 → IntKind.wrap .i64 (a.2.1.tdiv 64) = a.2.1.tdiv 64 := fun h => wrapU (by have := hd h; omega)
  simp only [P_spec_GoodAtom, P_spec_GoodAtom_1_3, P_spec_GoodAtom_1_8, p_spec_l1Printed h1, p_spec_GoodName h2, hp, Option.bind_some, hw1]
  unfold goodAtom printedIn printed
  by_cases k6 : a.1 = 6
  · simp only [k6]
    by_cases h0 : a.2.1 < 0
    · have : ¬ 0 ≤ a.2.1 := by omega
      grind
    · have h0' : 0 ≤ a.2.1 := by omega
      rw [hwr h0']
      by_cases h32 : a.2.1.tmod 64 ≤ 32
      · rw [hb h0' hn.2 h32]
        simp only [Option.bind_some]
        grind
      · grind
  · clear hb hd hpos hwr hp hw hw2
    simp only [k6, decide_false, cond_false, and_c, or_c, some_cond, some_dec]
    grind (splits := 30)
theorem p_impl_GoodAtom {a : Atm} (hw : wfD TyAtom a) : P_impl_GoodAtom a = some (goodAtom a) := by
  have hw2 : inK .i64 a.1 = true ∧ inK .i64 a.2.1 = true ∧ wfD .str a.2.2.1 ∧ wfD .str a.2.2.2 := hw
  have h1 := wfS_len hw2.2.2.1
  have h2 := wfS_len hw2.2.2.2
  have hn := hw2.2.1
  rw [inK_iff, min_i64, max_i64] at hn
  have hd : 0 ≤ a.2.1 → a.2.1.tdiv 64 = a.2.1 / 64 := fun h => Int.tdiv_eq_ediv_of_nonneg h
  have hwr : 0 ≤ a.2.1 → IntKind.wrap .i64 (a.2.1.tdiv 64) = a.2.1.tdiv 64 := fun h => wrapU (by have := hd h; omega)
  have hmm : 0 ≤ a.2.1 → 0 ≤ a.2.1.tmod 64 := fun h => Int.tmod_nonneg 64 h
  simp only [P_impl_GoodAtom, P_impl_GoodAtom_1_2, P_impl_GoodAtom_1_7, p_impl_yprinted _ _ h1, p_impl_GoodName h2, Option.bind_some]
  unfold goodAtom
  by_cases k6 : a.1 = 6
  · simp only [k6]
    by_cases h0 : a.2.1 < 0
    · have : ¬ 0 ≤ a.2.1 := by omega
      grind
    · have h0' : 0 ≤ a.2.1 := by omega
      have hm0 := hmm h0'
      rw [hwr h0']
      by_cases h32 : a.2.1.tmod 64 ≤ 32
      · have hws : IntKind.wrap .i64 (32 - a.2.1.tmod 64) = 32 - a.2.1.tmod 64 := wrapU (by omega)
        have hmn : min (32 - a.2.1.tmod 64).toNat 64 = (32 - a.2.1.tmod 64).toNat := by omega
        have hb : (2 : Int) ^ (32 - a.2.1.tmod 64).toNat ≤ 2 ^ 32 := by
          have := Nat.pow_le_pow_right (n := 2) (by omega) (show (32 - a.2.1.tmod 64).toNat ≤ 32 by omega)
          exact_mod_cast this
        have hp : (0 : Int) < 2 ^ (32 - a.2.1.tmod 64).toNat := Int.pow_pos (by omega)
        rw [hws, hmn, Int.one_mul, wrapU (by omega)]
        unfold pow2
        have hp2 : (2 : Int) ^ (32 - a.2.1.tmod 64).toNat ≠ 0 := by omega
        generalize (2 : Int) ^ (32 - a.2.1.tmod 64).toNat = q at *
        grind
      · grind
  · grind
theorem t_spec_l1CmpNum (a b : Int) : T_spec_l1CmpNum a b = cmpNum a b := by unfold T_spec_l1CmpNum cmpNum; rfl
theorem p_spec_l1CmpText_l (a b : List Int) (ha : bytesL a) (hb : bytesL b) : ∀ (r : List Int) (k : Nat), r = a.drop k → k ≤ a.length → k ≤ b.length → P_spec_l1CmpText_0_2 a b r k = some (cmpText r (b.drop k)) := by
  intro r
  induction r with
  | nil =>
    intro k hr hk hkb
    have h1 := drop_nil hr
    rw [P_spec_l1CmpText_0_2, t_spec_l1CmpNum, cmpText_nil, List.length_drop]
    unfold cmpNum
    grind
  | cons e r ih =>
    intro k hr hk hkb
    obtain ⟨h1, _, h2⟩ := drop_cons (d := 0) hr
    have h3 : (e :: r).length = a.length - k := by rw [hr, List.length_drop]
    rw [P_spec_l1CmpText_0_2]
    by_cases h : k < b.length
    · have hg := List.getElem?_eq_getElem h
      have he := ha e (List.mem_of_mem_drop (hr ▸ List.mem_cons_self))
      have hbk := hb b[k] (List.getElem_mem h)
      rw [rd_nat hg, inB_nat2 h, decide_eq_true (by omega), List.drop_eq_getElem_cons h, wrapU (by omega), wrapU (by omega), t_spec_l1CmpNum, ih (k + 1) h2 (by omega) (by omega)]
      simp only [cmpText, cond_true]
      by_cases hc : e = b[k]
      · simp [hc]
      · simp [hc]
    · rw [decide_eq_false (by omega), List.drop_eq_nil_of_le (by omega), cmpText_nil2, h3]
      simp only [cond_false, t_spec_l1CmpNum, cmpNum]
      grind
theorem p_spec_l1CmpText {a b : List Int} (ha : wfD .str a) (hb : wfD .str b) : P_spec_l1CmpText a b = some (cmpStr a b) := by
  rw [P_spec_l1CmpText, lenOk_pos (wfS_len ha), p_spec_l1CmpText_l a b (wfS_bytes ha) (wfS_bytes hb) a 0 rfl (by omega) (by omega), List.drop_zero, cmpText_str]
theorem p_spec_l1Cmp {a b : Atm} (ha : wfD TyAtom a) (hb : wfD TyAtom b) : P_spec_l1Cmp a b = some (cmpAtom a b) := by
  have ha2 : inK .i64 a.1 = true ∧ inK .i64 a.2.1 = true ∧ wfD .str a.2.2.1 ∧ wfD .str a.2.2.2 := ha
  have hb2 : inK .i64 b.1 = true ∧ inK .i64 b.2.1 = true ∧ wfD .str b.2.2.1 ∧ wfD .str b.2.2.2 := hb
  rw [P_spec_l1Cmp, p_spec_l1CmpText ha2.2.2.1 hb2.2.2.1, p_spec_l1CmpText ha2.2.2.2 hb2.2.2.2]
  simp only [t_spec_l1CmpNum, cmpAtom, Option.bind_some]
  grind
theorem t_cmp_Compare_int (a b : Int) : T_cmp_Compare_int a b = cmpNum a b := by
  unfold T_cmp_Compare_int T_cmp_isNaN_int cmpNum
  simp
theorem t_cmp_Compare_string (a b : List Int) : T_cmp_Compare_string a b = cmpStr a b := by
  unfold T_cmp_Compare_string T_cmp_isNaN_string cmpStr
  simp
theorem p_impl_ycmpAtom (a b : Atm) : P_impl_ycmpAtom a b = some (cmpAtom a b) := by
  rw [P_impl_ycmpAtom, P_cmp_Or_int, lenOk_pos (by simp [maxLen])]
  simp only [P_cmp_Or_int_0_3, t_cmp_Compare_int, t_cmp_Compare_string, cmpAtom]
  have h := cmpStr_zero a.2.2.1 b.2.2.1
  grind
theorem p_impl_ygoodRef {a : Atm} (hw : wfD TyAtom a) : P_impl_ygoodRef a = some (goodRef a) := by
  rw [P_impl_ygoodRef, p_impl_GoodAtom hw, goodRef]; grind
theorem p_spec_l11Ref {a : Atm} (hw : wfD TyAtom a) : P_spec_l11Ref a = some (goodRef a) := by
  rw [P_spec_l11Ref, p_spec_GoodAtom hw, goodRef]; grind
theorem p_impl_yallNames_l : ∀ (l : List (List Int)) (k : Nat), (∀ s ∈ l, s.length ≤ maxLen) → P_impl_yallNames_0_2_1002_1001 l k = some (l.all goodName)
  | [], k, _ => rfl
  | s :: l, k, h => by
    rw [P_impl_yallNames_0_2_1002_1001, p_impl_GoodName (h s (by simp)), p_impl_yallNames_l l (k + 1) (fun x hx => h x (by simp [hx])), List.all_cons]
    simp only [Option.bind_some, nat0]
    grind
theorem p_impl_yallNames {l : List (List Int)} (h : wfD (.list .str) l) : P_impl_yallNames l = some (l.all goodName) := by
  rw [P_impl_yallNames, lenOk_pos h.1, p_impl_yallNames_l l 0 fun s hs => wfS_len (h.2 s hs)]
theorem p_impl_yrising_l (xs : List (List Int)) (hl : xs.length ≤ maxLen) : ∀ (r : List (List Int)) (k : Nat), r = xs.drop k → P_impl_yrising_0_2 xs r k = some (risingFrom lessI (before xs k) r)
  | [], k, _ => by rw [risingFrom_nil]; rfl
  | e :: r, k, h => by
    obtain ⟨h1, h2, h3, h4, h5⟩ := step_prev (d := Ty.dflt .str) hl h
    rw [P_impl_yrising_0_2, p_impl_yrising_l xs hl r (k + 1) h1, h2, risingFrom_cons]
    rcases h5 with rfl | ⟨h5, h6, h7, _⟩
    · simp [before]
    · rw [h6, h7]; grind
theorem p_impl_yrising {l : List (List Int)} (h : l.length ≤ maxLen) : P_impl_yrising l = some (risingBy lessI l) := by
  rw [P_impl_yrising, lenOk_pos h, p_impl_yrising_l l h l 0 rfl]; rfl
theorem t_impl_yzeroAtom (a : Atm) : T_impl_yzeroAtom a = decide (a = (0, 0, [], [])) := by unfold T_impl_yzeroAtom; exact decide_eq_decide.2 Iff.rfl
theorem p_impl_yrisingAtoms_l (xs : List Atm) (hw : wfD (.list TyAtom) xs) : ∀ (r : List Atm) (k : Nat), r = xs.drop k → P_impl_yrisingAtoms_0_2 xs r k = some (r.all goodAtom && risingFrom lessAtom (before xs k) r)
  | [], k, _ => by rw [risingFrom_nil]; rfl
  | e :: r, k, h => by
    obtain ⟨h1, h2, h3, h4, h5⟩ := step_prev (d := Ty.dflt TyAtom) hw.1 h
    rw [P_impl_yrisingAtoms_0_2, p_impl_GoodAtom (hw.2 e h4), p_impl_yrisingAtoms_l xs hw r (k + 1) h1, h2, risingFrom_cons]
    simp only [Option.bind_some, p_impl_ycmpAtom, cmpAtom_ge, List.all_cons]
    rcases h5 with rfl | ⟨h5, h6, h7, _⟩
    · simp [before]; grind
    · rw [h6, h7]; grind
theorem p_impl_yrisingAtoms {l : List Atm} (h : wfD (.list TyAtom) l) : P_impl_yrisingAtoms l = some (l.all goodAtom && risingBy lessAtom l) := by
  rw [P_impl_yrisingAtoms, lenOk_pos h.1, p_impl_yrisingAtoms_l l h l 0 rfl]; rfl
theorem p_impl_GoodValue_l : ∀ (l : List Atm) (k : Nat), (∀ a ∈ l, wfD TyAtom a) → P_impl_GoodValue_0_2_1002_7031 l k = some (l.all goodAtom)
  | [], k, _ => rfl
  | s :: l, k, h => by
    rw [P_impl_GoodValue_0_2_1002_7031, p_impl_GoodAtom (h s (by simp)), p_impl_GoodValue_l l (k + 1) (fun x hx => h x (by simp [hx])), List.all_cons]
    simp only [Option.bind_some, nat0]
    grind
theorem p_impl_GoodValue {v : Val} (hw : wfD TyValue v) : P_impl_GoodValue v = some (goodValue v) := by
  have hw2 : inK .i64 v.1 = true ∧ wfD TyAtom v.2.1 ∧ wfD (.list TyAtom) v.2.2.1 ∧ wfD (.list .str) v.2.2.2 := hw
  rw [P_impl_GoodValue, p_impl_GoodAtom hw2.2.1, p_impl_yrisingAtoms hw2.2.2.1, p_impl_yallNames hw2.2.2.2, p_impl_yrising hw2.2.2.2.1, lenOk_pos hw2.2.2.1.1, p_impl_GoodValue_l _ _ hw2.2.2.1.2]
  simp only [t_impl_yzeroAtom, Option.bind_some, goodValue, and_c, or_c, some_cond, some_dec]
  clear hw hw2
  grind (splits := 30)
theorem p_spec_GoodValue_m (v : Val) (hw : wfD (.list .str) v.2.2.2) : ∀ (r : List (List Int)) (k : Nat), r = v.2.2.2.drop k → P_spec_GoodValue_0_19 v r k = some (r.all goodName && risingFrom lessI (before v.2.2.2 k) r)
  | [], k, _ => by rw [risingFrom_nil]; rfl
  | e :: r, k, h => by
    obtain ⟨h1, h2, h3, h4, h5⟩ := step_prev (d := Ty.dflt .str) hw.1 h
    rw [P_spec_GoodValue_0_19, p_spec_GoodName (wfS_len (hw.2 e h4)), p_spec_GoodValue_m v hw r (k + 1) h1, h2, risingFrom_cons]
    simp only [Option.bind_some, List.all_cons]
    rcases h5 with rfl | ⟨h5, h6, h7, h8⟩
    · simp [before]; grind
    · rw [h6, h7, p_spec_l1CmpText (hw.2 _ h8) (hw.2 _ h4)]
      simp only [Option.bind_some, cmpStr_ge]
      grind
theorem p_spec_GoodValue_l (v : Val) (hw : wfD (.list TyAtom) v.2.2.1) (hn : wfD (.list .str) v.2.2.2) : ∀ (r : List Atm) (k : Nat), r = v.2.2.1.drop k → P_spec_GoodValue_0_9 v r k =
    some (r.all goodAtom && (bif decide (v.1 = 2) then risingFrom lessAtom (before v.2.2.1 k) r && decide (v.2.2.2.length = 0) else decide (v.2.2.2.length = v.2.2.1.length) && v.2.2.2.all goodName && risingBy lessI v.2.2.2))
  | [], k, _ => by
    rw [P_spec_GoodValue_0_9, risingFrom_nil, lenOk_pos hn.1, p_spec_GoodValue_m v hn v.2.2.2 0 rfl, risingBy, before_zero]
    simp only [List.all_nil, and_c, or_c, some_cond, some_dec]
    grind (splits := 30)
  | e :: r, k, h => by
    obtain ⟨h1, h2, h3, h4, h5⟩ := step_prev (d := Ty.dflt TyAtom) hw.1 h
    rw [P_spec_GoodValue_0_9, p_spec_GoodAtom (hw.2 e h4), p_spec_GoodValue_l v hw hn r (k + 1) h1, h2, risingFrom_cons]
    simp only [Option.bind_some, List.all_cons]
    rcases h5 with rfl | ⟨h5, h6, h7, h8⟩
    · simp [before]; grind
    · rw [h6, h7, p_spec_l1Cmp (hw.2 _ h8) (hw.2 _ h4)]
      simp only [Option.bind_some, cmpAtom_ge]
      grind
theorem p_spec_GoodValue {v : Val} (hw : wfD TyValue v) : P_spec_GoodValue v = some (goodValue v) := by
  have hw2 : inK .i64 v.1 = true ∧ wfD TyAtom v.2.1 ∧ wfD (.list TyAtom) v.2.2.1 ∧ wfD (.list .str) v.2.2.2 := hw
  rw [P_spec_GoodValue]
  simp only [P_spec_GoodValue_1_6]
  rw [p_spec_GoodAtom hw2.2.1, lenOk_pos hw2.2.2.1.1, p_spec_GoodValue_l v hw2.2.2.1 hw2.2.2.2 v.2.2.1 0 rfl, before_zero]
  have e : (@decide (v.2.1 = (0, 0, ([] : List Int), ([] : List Int))) (Ty.decEq TyAtom v.2.1 (0, 0, ([] : List Int), ([] : List Int)))) = decide (v.2.1 = (0, 0, [], [])) := decide_eq_decide.2 Iff.rfl
  simp only [e, Option.bind_some, goodValue, risingBy, and_c, or_c, some_cond, some_dec]
  clear hw hw2 e
  grind (splits := 30)
theorem p_impl_ygoodFields_l : ∀ (l : List Val) (k : Nat), (∀ v ∈ l, wfD TyValue v) → P_impl_ygoodFields_0_2_1002_1020 l k = some (l.all fun v => !decide (v.1 = 3) && goodValue v)
  | [], k, _ => rfl
  | v :: l, k, h => by
    rw [P_impl_ygoodFields_0_2_1002_1020, p_impl_GoodValue (h v (by simp)), p_impl_ygoodFields_l l (k + 1) (fun x hx => h x (by simp [hx])), List.all_cons]
    simp only [Option.bind_some, nat0, and_c, or_c, some_cond, some_dec]
    grind
theorem p_impl_ygoodFields {n : List (List Int)} {v : List Val} (hn : wfD (.list .str) n) (hv : wfD (.list TyValue) v) : P_impl_ygoodFields n v = some (goodFields n v) := by
  rw [P_impl_ygoodFields, p_impl_yallNames hn, p_impl_yrising hn.1, lenOk_pos hv.1, p_impl_ygoodFields_l v 0 hv.2]
  simp only [Option.bind_some, goodFields, and_c, or_c, some_cond, some_dec]
  grind (splits := 30)
theorem p_spec_l11Fields_l (xs : List (List Int)) (vs : List Val) (hx : wfD (.list .str) xs) (hv : wfD (.list TyValue) vs) (hlen : vs.length = xs.length) : ∀ (r : List (List Int)) (k : Nat), r = xs.drop k →
    P_spec_l11Fields_0_4 xs vs r k = some (r.all goodName && risingFrom lessI (before xs k) r && (vs.drop k).all fun v => !decide (v.1 = 3) && goodValue v)
  | [], k, h => by
    have := drop_nil h
    rw [risingFrom_nil, List.drop_eq_nil_of_le (by omega)]; rfl
  | e :: r, k, h => by
    obtain ⟨h1, h2, h3, h4, h5⟩ := step_prev (d := Ty.dflt .str) hx.1 h
    have hk : k < vs.length := by omega
    have hg := List.getElem?_eq_getElem hk
    rw [P_spec_l11Fields_0_4, p_spec_GoodName (wfS_len (hx.2 e h4)), p_spec_l11Fields_l xs vs hx hv hlen r (k + 1) h1, h2, risingFrom_cons, inB_nat2 hk, rd_nat hg, p_spec_GoodValue (hv.2 _ (List.getElem_mem hk)), List.drop_eq_getElem_cons hk]
    simp only [Option.bind_some, List.all_cons, cond_true]
    rcases h5 with rfl | ⟨h5, h6, h7, h8⟩
    · simp only [before_zero, Int.natCast_zero, Int.lt_irrefl, decide_false, cond_false, and_c, or_c, some_cond, some_dec]
      grind
    · rw [h6, h7, p_spec_l1CmpText (hx.2 _ h8) (hx.2 _ h4)]
      simp only [Option.bind_some, cmpStr_ge, cond_true, and_c, or_c, some_cond, some_dec]
      have : decide ((0 : Int) < (k : Int)) = true := decide_eq_true (by omega)
      rw [this]
      clear hx hv h h1 h2 h7 h8
      grind
theorem p_spec_l11Fields {n : List (List Int)} {v : List Val} (hn : wfD (.list .str) n) (hv : wfD (.list TyValue) v) : P_spec_l11Fields n v = some (goodFields n v) := by
  rw [P_spec_l11Fields, lenOk_pos hn.1]
  by_cases hl : v.length = n.length
  · rw [p_spec_l11Fields_l n v hn hv hl n 0 rfl, List.drop_zero, before_zero]
    simp only [Option.bind_some, goodFields, risingBy, hl, and_c, or_c, some_cond, some_dec]
    clear hn hv
    grind (splits := 30)
  · simp only [goodFields, and_c, or_c, some_cond, some_dec]
    clear hn hv
    grind (splits := 30)
theorem p_impl_GoodRequest {r : Req} (hw : wfD TyRequest r) : P_impl_GoodRequest r = some (goodRequest r) := by
  have h : wfD TyAtom r.1 ∧ wfD TyAtom r.2.1 ∧ wfD TyAtom r.2.2.1 ∧ wfD (.list .str) r.2.2.2.1 ∧ wfD (.list TyValue) r.2.2.2.2 := hw
  rw [P_impl_GoodRequest, p_impl_ygoodRef h.1, p_impl_ygoodRef h.2.1, p_impl_ygoodRef h.2.2.1, p_impl_ygoodFields h.2.2.2.1 h.2.2.2.2]
  simp only [Option.bind_some, goodRequest, and_c, or_c, some_cond, some_dec]
  clear h hw
  grind (splits := 30)
theorem p_spec_GoodRequest {r : Req} (hw : wfD TyRequest r) : P_spec_GoodRequest r = some (goodRequest r) := by
  have h : wfD TyAtom r.1 ∧ wfD TyAtom r.2.1 ∧ wfD TyAtom r.2.2.1 ∧ wfD (.list .str) r.2.2.2.1 ∧ wfD (.list TyValue) r.2.2.2.2 := hw
  rw [P_spec_GoodRequest, p_spec_l11Ref h.1, p_spec_l11Ref h.2.1, p_spec_l11Ref h.2.2.1, p_spec_l11Fields h.2.2.2.1 h.2.2.2.2]
  simp only [Option.bind_some, goodRequest, and_c, or_c, some_cond, some_dec]
  clear h hw
  grind (splits := 30)
theorem p_impl_ygoodRefs_l : ∀ (l : List Atm) (k : Nat), P_impl_ygoodRefs_0_2_1002_1010 l k = some (l.all fun a => decide (a.1 = 4))
  | [], k => rfl
  | a :: l, k => by
    rw [P_impl_ygoodRefs_0_2_1002_1010, p_impl_ygoodRefs_l l (k + 1), List.all_cons]
    simp only [nat0, and_c, or_c, some_cond, some_dec]
    grind
theorem p_impl_ygoodRefs {l : List Atm} {m : Int} (h : wfD (.list TyAtom) l) : P_impl_ygoodRefs l m = some (decide ((l.length : Int) ≤ m) && goodRefs l) := by
  rw [P_impl_ygoodRefs, p_impl_yrisingAtoms h, lenOk_pos h.1, p_impl_ygoodRefs_l]
  rw [goodRefs, show l.all goodRef = ((l.all fun a => decide (a.1 = 4)) && l.all goodAtom) from (all_and _ _ l).symm]
  simp only [Option.bind_some]
  cases l.all goodAtom <;> cases risingBy lessAtom l <;> cases (l.all fun a => decide (a.1 = 4)) <;> cases decide ((l.length : Int) ≤ m) <;> rfl
theorem p_impl_GoodThings_l (xs : List Thg) (hw : wfD (.list TyThing) xs) : ∀ (r : List Thg) (k : Nat), r = xs.drop k →
    P_impl_GoodThings_0_4 xs r k = some (r.all goodThing && risingFrom (fun a b => lessAtom a.1 b.1) (before xs k) r)
  | [], k, h => by rw [risingFrom_nil]; rfl
  | e :: r, k, h => by
    obtain ⟨h1, h2, h3, h4, h5⟩ := step_prev (d := Ty.dflt TyThing) hw.1 h
    have we : wfD TyAtom e.1 ∧ wfD (.list TyAtom) e.2.1 ∧ wfD (.list .str) e.2.2.1 ∧ wfD (.list TyValue) e.2.2.2 := hw.2 e h4
    rw [P_impl_GoodThings_0_4, p_impl_ygoodRef we.1, p_impl_ygoodRefs we.2.1, p_impl_ygoodFields we.2.2.1 we.2.2.2, p_impl_GoodThings_l xs hw r (k + 1) h1, h2, risingFrom_cons]
    simp only [Option.bind_some, List.all_cons, p_impl_ycmpAtom, cmpAtom_ge]
    rcases h5 with rfl | ⟨h5, h6, h7, h8⟩
    · simp only [before_zero, goodThing, Int.natCast_zero, Int.lt_irrefl, decide_false, cond_false, and_c, or_c, some_cond, some_dec]
      clear hw we h h1 h2
      grind (splits := 30)
    · rw [h6, h7, decide_eq_true (show (0 : Int) < (k : Int) by omega)]
      simp only [goodThing, cond_true, and_c, or_c, some_cond, some_dec]
      clear hw we h h1 h2 h7 h8
      grind (splits := 30)
theorem p_impl_GoodThings {l : List Thg} (hw : wfD (.list TyThing) l) : P_impl_GoodThings l = some (goodThings l) := by
  rw [P_impl_GoodThings, lenOk_pos hw.1, p_impl_GoodThings_l l hw l 0 rfl, before_zero]
  simp only [goodThings, risingBy, and_c, or_c, some_cond, some_dec]
  clear hw
  grind
theorem p_spec_GoodThings_m (K : Option Bool) (x : Thg) (hw : wfD (.list TyAtom) x.2.1) : ∀ (r : List Atm) (k : Nat), r = x.2.1.drop k →
    P_spec_GoodThings_0_9 K x r k = bif r.all goodRef && risingFrom lessAtom (before x.2.1 k) r then K else some false
  | [], k, _ => by rw [risingFrom_nil]; rfl
  | e :: r, k, h => by
    obtain ⟨h1, h2, h3, h4, h5⟩ := step_prev (d := Ty.dflt TyAtom) hw.1 h
    rw [P_spec_GoodThings_0_9, p_spec_l11Ref (hw.2 e h4), p_spec_GoodThings_m K x hw r (k + 1) h1, h2, risingFrom_cons]
    simp only [Option.bind_some, List.all_cons]
    rcases h5 with rfl | ⟨h5, h6, h7, h8⟩
    · simp only [before_zero, Int.natCast_zero, Int.lt_irrefl, decide_false, cond_false, and_c, or_c]
      clear hw h h1 h2
      grind (splits := 30)
    · rw [h6, h7, decide_eq_true (show (0 : Int) < (k : Int) by omega), p_spec_l1Cmp (hw.2 _ h8) (hw.2 _ h4)]
      simp only [Option.bind_some, cmpAtom_ge, cond_true, and_c, or_c]
      clear hw h h1 h2 h7 h8
      grind (splits := 30)
theorem p_spec_GoodThings_l (xs : List Thg) (hw : wfD (.list TyThing) xs) : ∀ (r : List Thg) (k : Nat), r = xs.drop k →
    P_spec_GoodThings_0_4 xs r k = some (r.all goodThing && risingFrom (fun a b => lessAtom a.1 b.1) (before xs k) r)
  | [], k, h => by rw [risingFrom_nil]; rfl
  | e :: r, k, h => by
    obtain ⟨h1, h2, h3, h4, h5⟩ := step_prev (d := Ty.dflt TyThing) hw.1 h
    have we : wfD TyAtom e.1 ∧ wfD (.list TyAtom) e.2.1 ∧ wfD (.list .str) e.2.2.1 ∧ wfD (.list TyValue) e.2.2.2 := hw.2 e h4
    rw [P_spec_GoodThings_0_4, p_spec_l11Ref we.1, p_spec_l11Fields we.2.2.1 we.2.2.2, lenOk_pos we.2.1.1, p_spec_GoodThings_m _ e we.2.1 e.2.1 0 rfl, p_spec_GoodThings_l xs hw r (k + 1) h1, h2, risingFrom_cons]
    simp only [Option.bind_some, List.all_cons, before_zero]
    have hg : goodThing e = (goodRef e.1 && decide (e.2.1.length ≤ 50) && (e.2.1.all goodRef && risingFrom lessAtom none e.2.1) && goodFields e.2.2.1 e.2.2.2) := rfl
    rcases h5 with rfl | ⟨h5, h6, h7, h8⟩
    · simp only [hg, before_zero, Int.natCast_zero, Int.lt_irrefl, decide_false, cond_false, and_c, or_c, some_cond, some_dec]
      clear hw we h h1 h2 hg
      grind (splits := 30)
    · have wp : wfD TyAtom _ ∧ _ := hw.2 _ h8
      rw [h6, h7, decide_eq_true (show (0 : Int) < (k : Int) by omega), p_spec_l1Cmp wp.1 we.1]
      simp only [Option.bind_some, hg, cmpAtom_ge, cond_true, and_c, or_c, some_cond, some_dec]
      clear hw we h h1 h2 h7 h8 wp hg
      grind (splits := 30)
theorem p_spec_GoodThings {l : List Thg} (hw : wfD (.list TyThing) l) : P_spec_GoodThings l = some (goodThings l) := by
  rw [P_spec_GoodThings, lenOk_pos hw.1, p_spec_GoodThings_l l hw l 0 rfl, before_zero]
  simp only [goodThings, risingBy, and_c, or_c, some_cond, some_dec]
  clear hw
  grind
theorem p_spec_l11Thing_l (a : DAtom) (xs : List DThing) : ∃ y, P_spec_l11Thing_0_2 a xs = some y ∧ (y.1 ∈ xs ∨ y.1.2.1 = []) := by
  induction xs with
  | nil => exact ⟨_, rfl, .inr rfl⟩
  | cons e r ih =>
    rw [P_spec_l11Thing_0_2]
    by_cases h : e.1 = a
    · subst h
      exact ⟨(e, true), by simp, .inl (by simp)⟩
    · obtain ⟨y, h1, h2⟩ := ih
      refine ⟨y, by simp [h, h1], ?_⟩
      rcases h2 with h2 | h2
      · exact .inl (by simp [h2])
      · exact .inr h2
theorem p_spec_l11Thing {xs : List DThing} (h : xs.length ≤ maxLen) (a : DAtom) : ∃ y, P_spec_l11Thing xs a = some y ∧ (y.1 ∈ xs ∨ y.1.2.1 = []) := by
  rw [P_spec_l11Thing, lenOk_pos h]
  exact p_spec_l11Thing_l a xs
theorem p_impl_yfindThing_l (a : DAtom) (xs : List DThing) : ∀ k, P_impl_yfindThing_0_2_1002 a xs k = P_spec_l11Thing_0_2 a xs := by
  induction xs with
  | nil => intro k; rfl
  | cons e r ih =>
    intro k
    rw [P_impl_yfindThing_0_2_1002, P_spec_l11Thing_0_2, ih]
    have : decide ((k : Int) < 0) = false := decide_eq_false (by omega)
    rw [this]
    rfl
theorem p_impl_yfindThing (xs : List DThing) (a : DAtom) : P_impl_yfindThing xs a = P_spec_l11Thing xs a := by
  rw [P_impl_yfindThing, P_spec_l11Thing, p_impl_yfindThing_l]
theorem p_spec_l3Has_l (a : List Int) (xs : List (List Int)) : P_spec_l3Has_0_2 a xs = some (decide (a ∈ xs)) := by
  induction xs with
  | nil => simp [P_spec_l3Has_0_2]
  | cons e r ih =>
    rw [P_spec_l3Has_0_2, ih]
    by_cases h : e = a
    · subst h; simp
    · have h' : ¬ a = e := fun q => h q.symm
      simp [h, h']
theorem p_spec_l3Has {xs : List (List Int)} (h : xs.length ≤ maxLen) (a : List Int) : P_spec_l3Has xs a = some (decide (a ∈ xs)) := by
  rw [P_spec_l3Has, lenOk_pos h, p_spec_l3Has_l]
theorem p_spec_l3Rising_l (xs : List (List Int)) (hw : wfD (.list .str) xs) : ∀ (r : List (List Int)) (k : Nat), r = xs.drop k → 0 < k → P_spec_l3Rising_0_2 xs r k = some (risingFrom lessI (before xs k) r)
  | [], k, _, _ => by rw [risingFrom_nil]; rfl
  | e :: r, k, h, h0 => by
    obtain ⟨h1, h2, h3, h4, h5⟩ := step_prev (d := Ty.dflt .str) hw.1 h
    rcases h5 with rfl | ⟨_, h6, h7, h8⟩
    · cases h0
    rw [P_spec_l3Rising_0_2, p_spec_l3Rising_l xs hw r (k + 1) h1 (by omega), h2, risingFrom_cons, h6, h7, p_spec_l1CmpText (hw.2 _ h8) (hw.2 _ h4)]
    simp only [Option.bind_some, cmpStr_ge]
    grind
theorem p_spec_l3Rising {l : List (List Int)} (h : wfD (.list .str) l) : P_spec_l3Rising l = some (risingBy lessI l) := by
  rw [P_spec_l3Rising, lenOk_pos h.1, p_spec_l3Rising_l l h _ 1 rfl (by omega)]
  cases l with
  | nil => rfl
  | cons e l => rfl
def setP : List Int := [115, 101, 116, 32]
def refP : List Int := [114, 101, 102, 32]
def hasP (h s : List Int) : Bool := decide (h.length ≤ s.length) && decide (s.take h.length = h)
theorem cut_zero (s : List Int) (n : Nat) : cut s 0 (n : Int) = s.take n := by unfold cut; simp
theorem cut_from (s : List Int) (n : Nat) : cut s (n : Int) (s.length : Int) = s.drop n := by unfold cut; simp
theorem cut_four (s : List Int) : cut s 4 (s.length : Int) = s.drop 4 := cut_from s 4
theorem hasP_app (h t : List Int) : hasP h (h ++ t) = true := by unfold hasP; simp
theorem hasP_eq {h s : List Int} (q : hasP h s = true) : s = h ++ s.drop h.length := by
  unfold hasP at q
  simp only [Bool.and_eq_true, decide_eq_true_eq] at q
  have := List.take_append_drop h.length s
  rw [q.2] at this
  exact this.symm
theorem p_spec_l11Head (s h : List Int) : P_spec_l11Head s h = some (decide (h.length < s.length) && hasP h s) := by
  rw [P_spec_l11Head, cut_zero]
  unfold hasP
  by_cases q : h.length < s.length
  · have q1 : (h.length : Int) < (s.length : Int) := by omega
    have q2 : (0 : Int) ≤ (h.length : Int) := by omega
    have q3 : (h.length : Int) ≤ (s.length : Int) := by omega
    have q4 : h.length ≤ s.length := by omega
    simp [q, q1, q2, q3, q4]
  · have q1 : ¬ (h.length : Int) < (s.length : Int) := by omega
    simp [q, q1]
theorem p_HasPrefix (s h : List Int) : P_stringslite_HasPrefix s h = some (hasP h s) := by
  rw [P_stringslite_HasPrefix, cut_zero]
  unfold hasP
  by_cases q : h.length ≤ s.length
  · have q2 : (0 : Int) ≤ (h.length : Int) := by omega
    have q3 : (h.length : Int) ≤ (s.length : Int) := by omega
    simp [q, q2, q3]
  · have q1 : ¬ (h.length : Int) ≤ (s.length : Int) := by omega
    simp [q, q1]
theorem hasP_len {s h : List Int} (q : hasP h s = true) : (decide ((0 : Int) ≤ (h.length : Int)) && decide ((h.length : Int) ≤ (s.length : Int))) = true := by
  unfold hasP at q
  simp only [Bool.and_eq_true, decide_eq_true_eq] at q ⊢
  exact ⟨by omega, by omega⟩
theorem p_CutPrefix (s h : List Int) : P_strings_CutPrefix s h = some (bif hasP h s then (s.drop h.length, true) else (s, false)) := by
  rw [P_strings_CutPrefix, P_stringslite_CutPrefix, p_HasPrefix]
  simp only [Option.bind_some]
  cases q : hasP h s with
  | true => rw [hasP_len q, cut_from]; rfl
  | false => rfl
theorem p_TrimPrefix (s h : List Int) : P_strings_TrimPrefix s h = some (bif hasP h s then s.drop h.length else s) := by
  rw [P_strings_TrimPrefix, P_stringslite_TrimPrefix, p_HasPrefix]
  simp only [Option.bind_some]
  cases q : hasP h s with
  | true => rw [hasP_len q, cut_from]; rfl
  | false => rfl
theorem p_spec_l3Has_k (a : List Int) (xs : List (List Int)) : P_spec_l3Has_0_2 a xs = some (decide (a ∈ xs)) := by
  induction xs with
  | nil => simp [P_spec_l3Has_0_2]
  | cons e r ih =>
    rw [P_spec_l3Has_0_2, ih]
    by_cases h : e = a
    · subst h; simp
    · have h' : ¬ a = e := fun q => h q.symm
      simp [h, h']
def kindT : List (List Int × Int) := [([98, 111, 111, 108], 1), ([110, 117, 109], 2), ([116, 101, 120, 116], 3), ([100, 101, 99], 5), ([97, 100, 100, 114], 6), ([116, 105, 109, 101], 7)]
def plainK (k : List Int) : Int := getM .str kindT k 0
def atomKind (a : DAtom) : List Int := bif decide (a.1 = 4) then refP ++ a.2.2.2 else rd T_spec_l6Kinds a.1 []
theorem p_spec_l11AtomKind {a : DAtom} (hg : goodAtom a = true) (_ : a.2.2.2.length ≤ maxLen) : P_spec_l11AtomKind a = some (atomKind a) := by
  have h17 : 1 ≤ a.1 ∧ a.1 ≤ 7 := by
    unfold goodAtom at hg
    grind
  rw [P_spec_l11AtomKind]
  unfold atomKind
  by_cases h4 : a.1 = 4
  · have hr : decide ((([114, 101, 102, 32] : List Int).length : Int) + (a.2.2.2.length : Int) ≤ room) = true := by
      have hn : goodName a.2.2.2 = true := by
        unfold goodAtom at hg
        grind
      have hn2 : a.2.2.2.length ≤ 30 := by
        unfold goodName at hn
        simp only [Bool.and_eq_true, decide_eq_true_eq] at hn
        exact hn.1.1.2
      rw [room_eq]; simp; omega
    simp only [h4, decide_true, cond_true, hr]; rfl
  · have hi : inB a.1 T_spec_l6Kinds.length = true := inB_iff.2 ⟨by omega, by show a.1 < 8; omega⟩
    simp only [h4, decide_false, cond_false, hi, cond_true]
    rfl
theorem kinds_at {k : Int} (h : 1 ≤ k ∧ k ≤ 7) (h4 : k ≠ 4) (s : List Int) : (rd T_spec_l6Kinds k [] = s) ↔ plainK s = k := by
  have hk : k = 1 ∨ k = 2 ∨ k = 3 ∨ k = 5 ∨ k = 6 ∨ k = 7 := by omega
  unfold plainK kindT
  simp only [getM]
  rcases hk with rfl | rfl | rfl | rfl | rfl | rfl
  · rw [show rd T_spec_l6Kinds 1 [] = [98, 111, 111, 108] from rfl]; grind
  · rw [show rd T_spec_l6Kinds 2 [] = [110, 117, 109] from rfl]; grind
  · rw [show rd T_spec_l6Kinds 3 [] = [116, 101, 120, 116] from rfl]; grind
  · rw [show rd T_spec_l6Kinds 5 [] = [100, 101, 99] from rfl]; grind
  · rw [show rd T_spec_l6Kinds 6 [] = [97, 100, 100, 114] from rfl]; grind
  · rw [show rd T_spec_l6Kinds 7 [] = [116, 105, 109, 101] from rfl]; grind
theorem plain_ref (s : List Int) : plainK (refP ++ s) = 0 := by
  unfold plainK kindT refP
  simp [getM]
theorem plain_four (s : List Int) : plainK s ≠ 4 := by
  unfold plainK kindT
  simp only [getM]
  grind
theorem ref_cancel {s t : List Int} : refP ++ s = refP ++ t ↔ s = t := List.append_cancel_left_eq refP s t ▸ Iff.rfl
theorem p_impl_yatomFits {g0 : List (List Int × Int)} (hg0 : ∀ k, getM .str g0 k 0 = plainK k) {a : DAtom} (hg : goodAtom a = true) (kind : List Int) : P_impl_yatomFits g0 a kind = some (decide (atomKind a = kind)) := by
  have h17 : 1 ≤ a.1 ∧ a.1 ≤ 7 := by
    unfold goodAtom at hg
    grind
  rw [P_impl_yatomFits, p_CutPrefix]
  have hd : hasP ([114, 101, 102, 32] : List Int) kind = hasP refP kind := rfl
  simp only [Option.bind_some, hg0, hd]
  unfold atomKind
  cases hp : hasP refP kind with
  | true =>
    have he := hasP_eq hp
    simp only [cond_true]
    have hl : kind.drop ([114, 101, 102, 32] : List Int).length = kind.drop refP.length := rfl
    rw [hl]
    generalize kind.drop refP.length = t at he
    subst he
    by_cases h4 : a.1 = 4
    · simp only [h4, decide_true, cond_true, Option.some.injEq, decide_eq_decide]
      exact ref_cancel.symm
    · have hne : ¬ rd T_spec_l6Kinds a.1 [] = refP ++ t := by
        rw [kinds_at h17 h4, plain_ref]; omega
      simp only [h4, decide_false, cond_false, Option.some.injEq, hne]
  | false =>
    simp only [cond_false, Option.some.injEq, decide_eq_decide]
    by_cases h4 : a.1 = 4
    · simp only [h4, decide_true, cond_true]
      refine ⟨fun q => absurd q (plain_four kind), fun q => ?_⟩
      rw [← q, hasP_app] at hp
      cases hp
    · simp only [h4, decide_false, cond_false]
      exact (kinds_at h17 h4 kind).symm
def okKind (b : List Int) : Bool := bif hasP refP b then goodName (b.drop 4) else !decide (plainK b = 0)
def fits (v : DValue) (kind : List Int) : Bool := goodValue v && (bif hasP setP kind then okKind (kind.drop 4) && decide (v.1 = 2) && v.2.2.1.all (fun a => decide (atomKind a = kind.drop 4)) else decide (v.1 = 1) && decide (atomKind v.2.1 = kind))
theorem six_mem (b : List Int) : decide (b ∈ ([([98, 111, 111, 108] : List Int), ([110, 117, 109] : List Int), ([116, 101, 120, 116] : List Int), ([100, 101, 99] : List Int), ([97, 100, 100, 114] : List Int), ([116, 105, 109, 101] : List Int)] : List (List Int))) = !decide (plainK b = 0) := by
  unfold plainK kindT
  simp only [getM, List.mem_cons, List.not_mem_nil, or_false]
  grind
theorem okKind_atom {a : DAtom} (hg : goodAtom a = true) : okKind (atomKind a) = true := by
  have h17 : 1 ≤ a.1 ∧ a.1 ≤ 7 := by
    unfold goodAtom at hg
    grind
  unfold okKind atomKind
  by_cases h4 : a.1 = 4
  · have hn : goodName a.2.2.2 = true := by
      unfold goodAtom at hg
      grind
    simp only [h4, decide_true, cond_true, hasP_app]
    exact hn
  · simp only [h4, decide_false, cond_false]
    have hk := (kinds_at h17 h4 _).1 rfl
    cases hp : hasP refP (rd T_spec_l6Kinds a.1 []) with
    | true =>
      have he := hasP_eq hp
      rw [he, plain_ref] at hk
      omega
    | false => rw [hk]; simp; omega
theorem good_items {v : DValue} (hg : goodValue v = true) : (∀ a ∈ v.2.2.1, goodAtom a = true) ∧ (v.1 = 1 → goodAtom v.2.1 = true) := by
  unfold goodValue at hg
  by_cases h1 : v.1 = 1
  · simp only [h1, decide_true, cond_true, Bool.and_eq_true, decide_eq_true_eq] at hg
    refine ⟨fun a ha => ?_, fun _ => hg.1.1⟩
    rw [List.eq_nil_of_length_eq_zero hg.1.2] at ha; cases ha
  · refine ⟨?_, fun h => absurd h h1⟩
    by_cases h2 : v.1 = 2
    · rw [decide_eq_false h1, decide_eq_true h2] at hg
      simp only [cond_false, cond_true, Bool.and_eq_true, decide_eq_true_eq, List.all_eq_true] at hg
      exact hg.2.1
    · by_cases h3 : v.1 = 3
      · rw [decide_eq_false h1, decide_eq_false h2, decide_eq_true h3] at hg
        simp only [cond_false, cond_true, Bool.and_eq_true, decide_eq_true_eq, List.all_eq_true] at hg
        exact hg.2
      · simp [h1, h2, h3] at hg
theorem p_spec_FitsKind_l (v : DValue) (base : List Int) : ∀ l : List DAtom, (∀ a ∈ l, goodAtom a = true ∧ a.2.2.2.length ≤ maxLen) → P_spec_FitsKind_0_9 base v l = some (l.all (fun a => decide (atomKind a = base)) && decide (v.1 = 2))
  | [], _ => by rw [P_spec_FitsKind_0_9]; simp
  | e :: r, h => by
    have he := h e (by simp)
    rw [P_spec_FitsKind_0_9, p_spec_l11AtomKind he.1 he.2, Option.bind_some, p_spec_FitsKind_l v base r (fun a ha => h a (by simp [ha])), List.all_cons]
    by_cases hq : atomKind e = base <;> simp [hq]
theorem p_spec_FitsKind {v : DValue} (hw : wfD TyValue v) {kind : List Int} (hk : kind.length ≤ maxLen) : P_spec_FitsKind v kind = some (fits v kind) := by
  have w : inK .i64 v.1 = true ∧ wfD TyAtom v.2.1 ∧ wfD (.list TyAtom) v.2.2.1 ∧ wfD (.list .str) v.2.2.2 := hw
  have tl : ∀ {a : DAtom}, wfD TyAtom a → a.2.2.2.length ≤ maxLen := fun h => by
    have h2 : inK .i64 _ = true ∧ inK .i64 _ = true ∧ wfD .str _ ∧ wfD .str _ := h
    exact wfS_len h2.2.2.2
  rw [P_spec_FitsKind, p_spec_GoodValue hw, Option.bind_some]
  unfold fits
  cases hg : goodValue v with
  | false => rfl
  | true =>
    obtain ⟨g1, g2⟩ := good_items hg
    simp only [Bool.not_true, cond_false, Bool.true_and, p_spec_l11Head, Option.bind_some]
    have hd : hasP ([115, 101, 116, 32] : List Int) kind = hasP setP kind := rfl
    rw [hd]
    cases hp : hasP setP kind with
    | false =>
      simp only [Bool.and_false, Bool.not_false, cond_true, cond_false]
      by_cases h1 : v.1 = 1
      · rw [p_spec_l11AtomKind (g2 h1) (tl w.2.1)]
        simp [h1]
      · simp [h1]
    | true =>
      have he := hasP_eq hp
      by_cases hl : ([115, 101, 116, 32] : List Int).length < kind.length
      · have h4 : decide ((4 : Int) ≤ (kind.length : Int)) = true := by
          exact decide_eq_true (by have : 4 < kind.length := hl; omega)
        simp only [hl, decide_true, Bool.true_and, Bool.not_true, cond_false, cond_true, h4, cut_four]
        generalize hb : kind.drop 4 = base
        have hbl : base.length ≤ maxLen := by rw [← hb, List.length_drop]; omega
        rw [P_spec_l3Has, lenOk_pos (by unfold maxLen; simp), p_spec_l3Has_k, Option.bind_some, six_mem, lenOk_pos w.2.2.1.1, p_spec_FitsKind_l v base _ (fun a ha => ⟨g1 a ha, tl (w.2.2.1.2 a ha)⟩)]
        have hd2 : hasP ([114, 101, 102, 32] : List Int) base = hasP refP base := rfl
        unfold okKind
        cases hr : hasP refP base with
        | false =>
          simp only [hd2, hr, Bool.and_false, Bool.not_not, cond_false]
          by_cases hz : plainK base = 0
          · simp [hz]
          · simp only [hz, decide_false, cond_false, Bool.not_false, Bool.true_and]
            rw [Bool.and_comm]
        | true =>
          have hre := hasP_eq hr
          have hz : plainK base = 0 := by rw [hre]; exact plain_ref _
          simp only [hd2, hr, hz, decide_true, Bool.not_true, Bool.not_false, cond_true, Bool.and_true]
          by_cases hl2 : ([114, 101, 102, 32] : List Int).length < base.length
          · have h42 : decide ((4 : Int) ≤ (base.length : Int)) = true := by
              exact decide_eq_true (by have : 4 < base.length := hl2; omega)
            simp only [hl2, decide_true, Bool.true_and, cond_true, h42, cut_four, p_spec_GoodName (show (base.drop 4).length ≤ maxLen by rw [List.length_drop]; omega), Option.bind_some]
            cases goodName (base.drop 4) with
            | false => rfl
            | true =>
              simp only [Bool.not_true, cond_false, Bool.true_and]
              rw [Bool.and_comm]
          · have hn : base.drop 4 = [] := List.drop_of_length_le (by have : ¬ 4 < base.length := hl2; omega)
            simp only [hl2, decide_false, cond_false, hn]
            rfl
      · have hn : kind.drop 4 = [] := List.drop_of_length_le (by have : ¬ 4 < kind.length := hl; omega)
        have hks : kind = setP := by
          have : kind.drop setP.length = [] := hn
          rw [this, List.append_nil] at he; exact he
        have hok : okKind (kind.drop 4) = false := by rw [hn]; rfl
        rw [hok]
        simp only [hl, decide_false, Bool.false_and, Bool.not_false, cond_true]
        by_cases h1 : v.1 = 1
        · have hne : ¬ atomKind v.2.1 = kind := by
            intro q
            have := okKind_atom (g2 h1)
            rw [q, hks] at this
            revert this; decide
          rw [p_spec_l11AtomKind (g2 h1) (tl w.2.1)]
          simp [h1, hne]
        · simp [h1]
theorem p_impl_FitsKind_l {g0 : List (List Int × Int)} (hg0 : ∀ k, getM .str g0 k 0 = plainK k) (base : List Int) : ∀ (l : List DAtom) (k : Nat), (∀ a ∈ l, goodAtom a = true) → P_impl_FitsKind_0_2_1002_6007 g0 base l k = some (l.all (fun a => decide (atomKind a = base)))
  | [], k, _ => rfl
  | e :: r, k, h => by
    rw [P_impl_FitsKind_0_2_1002_6007, p_impl_yatomFits hg0 (h e (by simp)), Option.bind_some, p_impl_FitsKind_l hg0 base r (k + 1) (fun a ha => h a (by simp [ha])), List.all_cons, nat0]
    cases decide (atomKind e = base) <;> rfl
theorem p_impl_FitsKind {g0 : List (List Int × Int)} (hg0 : ∀ k, getM .str g0 k 0 = plainK k) {v : DValue} (hw : wfD TyValue v) {kind : List Int} (hk : kind.length ≤ maxLen) : P_impl_FitsKind g0 v kind = some (fits v kind) := by
  have w : inK .i64 v.1 = true ∧ wfD TyAtom v.2.1 ∧ wfD (.list TyAtom) v.2.2.1 ∧ wfD (.list .str) v.2.2.2 := hw
  have key : ∀ (st : Bool) (base : List Int), base.length ≤ maxLen → Option.bind (P_strings_CutPrefix base ([114, 101, 102, 32] : List Int)) (fun (y2 : ((List Int) × Bool)) =>
      Option.bind (P_impl_GoodValue v) fun (y3 : Bool) =>
      bif !(y3) then
        some false
      else
        bif y2.2 then
          Option.bind (P_impl_GoodName y2.1) fun (y4 : Bool) =>
          bif !(y4) then
            some false
          else
            bif !(y2.2) then
              bif decide (getM .str g0 base 0 = 0) then
                some false
              else
                P_impl_FitsKind_1_5 g0 st v base
            else
              P_impl_FitsKind_1_5 g0 st v base
        else
          bif !(y2.2) then
            bif decide (getM .str g0 base 0 = 0) then
              some false
            else
              P_impl_FitsKind_1_5 g0 st v base
          else
            P_impl_FitsKind_1_5 g0 st v base) =
      some (goodValue v && (okKind base && (bif st then decide (v.1 = 2) && v.2.2.1.all (fun a => decide (atomKind a = base)) else decide (v.1 = 1) && decide (atomKind v.2.1 = base)))) := by
    intro st base hb
    rw [p_CutPrefix, Option.bind_some, p_impl_GoodValue hw, Option.bind_some]
    cases hg : goodValue v with
    | false => rfl
    | true =>
      obtain ⟨g1, g2⟩ := good_items hg
      have hfin : P_impl_FitsKind_1_5 g0 st v base = some (bif st then decide (v.1 = 2) && v.2.2.1.all (fun a => decide (atomKind a = base)) else decide (v.1 = 1) && decide (atomKind v.2.1 = base)) := by
        rw [P_impl_FitsKind_1_5, lenOk_pos w.2.2.1.1, p_impl_FitsKind_l hg0 base _ _ g1]
        cases st with
        | true => cases decide (v.1 = 2) <;> rfl
        | false =>
          by_cases h1 : v.1 = 1
          · rw [p_impl_yatomFits hg0 (g2 h1)]
            simp [h1]
          · simp [h1]
      rw [hfin]
      have hd2 : hasP ([114, 101, 102, 32] : List Int) base = hasP refP base := rfl
      rw [hd2, hg0]
      unfold okKind
      cases hr : hasP refP base with
      | true =>
        simp only [cond_true]
        rw [show base.drop ([114, 101, 102, 32] : List Int).length = base.drop 4 from rfl, p_impl_GoodName (by rw [List.length_drop]; omega)]
        cases goodName (base.drop 4) <;> rfl
      | false =>
        simp only [cond_false]
        cases decide (plainK base = 0) <;> rfl
  rw [P_impl_FitsKind, p_CutPrefix, Option.bind_some]
  have hd : hasP ([115, 101, 116, 32] : List Int) kind = hasP setP kind := rfl
  rw [hd]
  unfold fits
  cases hp : hasP setP kind with
  | true =>
    simp only [cond_true]
    rw [show kind.drop ([115, 101, 116, 32] : List Int).length = kind.drop 4 from rfl, key true (kind.drop 4) (by rw [List.length_drop]; omega)]
    simp [Bool.and_assoc]
  | false =>
    simp only [cond_false]
    rw [key false kind hk]
    cases hg : goodValue v with
    | false => rfl
    | true =>
      simp only [Bool.true_and, cond_false, Option.some.injEq]
      by_cases h1 : v.1 = 1
      · by_cases hq : atomKind v.2.1 = kind
        · have := okKind_atom ((good_items hg).2 h1)
          rw [hq] at this
          simp [h1, hq, this]
        · simp [hq]
      · simp [h1]
theorem same_FitsKind {g0 : List (List Int × Int)} (hg0 : ∀ k, getM .str g0 k 0 = plainK k) {v : DValue} {kind : List Int} (hw : wfD TyValue v) (hk : wfD .str kind) : ∃ b, P_spec_FitsKind v kind = some b ∧ P_impl_FitsKind g0 v kind = some b :=
  ⟨_, p_spec_FitsKind hw (wfS_len hk), p_impl_FitsKind hg0 hw (wfS_len hk)⟩
def tabKinds : List (List UInt8 × Int) := [([97, 100, 100, 114], 6), ([98, 111, 111, 108], 1), ([100, 101, 99], 5), ([110, 117, 109], 2), ([116, 101, 120, 116], 3), ([116, 105, 109, 101], 7)]
theorem tabKinds_mem (p : List Int × Int) : p ∈ tabT tabKinds ↔ p ∈ kindT := by
  obtain ⟨k, v⟩ := p
  have h : tabT tabKinds = [([97, 100, 100, 114], 6), ([98, 111, 111, 108], 1), ([100, 101, 99], 5), ([110, 117, 109], 2), ([116, 101, 120, 116], 3), ([116, 105, 109, 101], 7)] := rfl
  rw [h]
  unfold kindT
  simp only [List.mem_cons, List.not_mem_nil, or_false]
  grind
theorem kindT_one (k : List Int) (v v' : Int) (h : (k, v) ∈ kindT) (h' : (k, v') ∈ kindT) : v = v' := by
  unfold kindT at h h'
  simp only [List.mem_cons, List.not_mem_nil, or_false, Prod.mk.injEq] at h h'
  grind
theorem laid_impl_yplainKinds {P : Program} {W : World} {t k e : TypeId} {fuel : Nat} {cs : List Value} {ps : List MemPlace} (ht : P.underlying t = some (.map k e)) (hk : P.underlying k = some .string) (he : P.underlying e = some (.int .i64))
    (h : DataW.trod (fun _ => ()) P W 0 (fun _ => true) false fuel t cs = some (.map (tabD .i64 tabKinds), ps)) : ∃ es : List (List Int × Int), RelD (snapAll W) (.map .str I64) es cs ∧ ∀ k, getM .str es k 0 = plainK k := by
  obtain ⟨es, h1, h2⟩ := tab_rel ht hk he (by decide) h
  exact ⟨es, h1, fun k => getM_same (fun p => (h2 p).trans (tabKinds_mem p)) kindT_one k⟩
def thingOf : List DThingType → List Int → DThingType × Bool
  | [], _ => (([], [], []), false)
  | e :: r, n => bif decide (e.1 = n) then (e, true) else thingOf r n
def isThing (l : List DThingType) (n : List Int) : Bool := (thingOf l n).2
theorem p_spec_l11ThingType_l (n : List Int) : ∀ l, P_spec_l11ThingType_0_2 n l = some (thingOf l n)
  | [] => rfl
  | e :: r => by rw [P_spec_l11ThingType_0_2, p_spec_l11ThingType_l n r, thingOf]; cases decide (e.1 = n) <;> rfl
theorem p_spec_l11ThingType {s : DPolSchema} (h : s.1.length ≤ maxLen) (n : List Int) : P_spec_l11ThingType s n = some (thingOf s.1 n) := by rw [P_spec_l11ThingType, lenOk_pos h, p_spec_l11ThingType_l]
theorem isThing_of : ∀ {l : List DThingType} {n : List Int}, isThing l n = true → ∃ t ∈ l, t.1 = n
  | [], n, h => by cases h
  | e :: r, n, h => by
    unfold isThing at h
    rw [thingOf] at h
    by_cases he : e.1 = n
    · exact ⟨e, by simp, he⟩
    · simp only [he, decide_false, cond_false] at h
      obtain ⟨t, h1, h2⟩ := isThing_of h
      exact ⟨t, by simp [h1], h2⟩
theorem p_impl_ything_l (n : List Int) : ∀ l, P_impl_PolSchema_ything_0_2_1003 n l = some (thingOf l n)
  | [] => rfl
  | e :: r => by rw [P_impl_PolSchema_ything_0_2_1003, p_impl_ything_l n r, thingOf]; cases decide (e.1 = n) <;> rfl
theorem p_impl_ything {s : DPolSchema} (h : s.1.length ≤ maxLen) (n : List Int) : P_impl_PolSchema_ything s n = some (thingOf s.1 n) := by rw [P_impl_PolSchema_ything, lenOk_pos h, p_impl_ything_l]
theorem p_spec_l3Rising_lk (xs : List (List Int)) (hw : wfD (.list .str) xs) : ∀ (r : List (List Int)) (k : Nat), r = xs.drop k → 0 < k → P_spec_l3Rising_0_2 xs r k = some (risingFrom lessI (before xs k) r)
  | [], k, _, _ => by rw [risingFrom_nil]; rfl
  | e :: r, k, h, h0 => by
    obtain ⟨h1, h2, h3, h4, h5⟩ := step_prev (d := Ty.dflt .str) hw.1 h
    rcases h5 with rfl | ⟨_, h6, h7, h8⟩
    · cases h0
    rw [P_spec_l3Rising_0_2, p_spec_l3Rising_lk xs hw r (k + 1) h1 (by omega), h2, risingFrom_cons, h6, h7, p_spec_l1CmpText (hw.2 _ h8) (hw.2 _ h4)]
    simp only [Option.bind_some, cmpStr_ge]
    grind
theorem p_spec_l3Rising_k {l : List (List Int)} (h : wfD (.list .str) l) : P_spec_l3Rising l = some (risingBy lessI l) := by
  rw [P_spec_l3Rising, lenOk_pos h.1, p_spec_l3Rising_lk l h _ 1 rfl (by omega)]
  cases l with
  | nil => rfl
  | cons e l => rfl
def typesOk (s : List DThingType) (l : List (List Int)) : Bool := l.all (isThing s) && risingBy lessI l
theorem p_spec_l11GoodTypes_l {s : DPolSchema} (hs : s.1.length ≤ maxLen) (xs : List (List Int)) (hx : wfD (.list .str) xs) : ∀ l, P_spec_l11GoodTypes_0_2 xs s l = some (l.all (isThing s.1) && risingBy lessI xs)
  | [] => by rw [P_spec_l11GoodTypes_0_2, p_spec_l3Rising_k hx]; rfl
  | e :: r => by
    rw [P_spec_l11GoodTypes_0_2, p_spec_l11ThingType hs, p_spec_l11GoodTypes_l hs xs hx r, List.all_cons]
    simp only [Option.bind_some, isThing]
    cases (thingOf s.1 e).2 <;> simp
theorem p_spec_l11GoodTypes {s : DPolSchema} (hs : s.1.length ≤ maxLen) {l : List (List Int)} (hl : wfD (.list .str) l) : P_spec_l11GoodTypes s l = some (typesOk s.1 l) := by
  rw [P_spec_l11GoodTypes, lenOk_pos hl.1, p_spec_l11GoodTypes_l hs l hl]; rfl
theorem p_impl_ythingNames_l {s : DPolSchema} (hs : s.1.length ≤ maxLen) : ∀ (l : List (List Int)) (k : Nat), P_impl_PolSchema_ythingNames_0_2_1002_1005 s l k = some (l.all (isThing s.1))
  | [], k => rfl
  | e :: r, k => by
    rw [P_impl_PolSchema_ythingNames_0_2_1002_1005, p_impl_ything hs, p_impl_ythingNames_l hs r (k + 1), List.all_cons, nat0]
    simp only [Option.bind_some, isThing]
    cases (thingOf s.1 e).2 <;> rfl
theorem p_impl_ythingNames {s : DPolSchema} (hs : s.1.length ≤ maxLen) {l : List (List Int)} (hl : l.length ≤ maxLen) : P_impl_PolSchema_ythingNames s l = some (typesOk s.1 l) := by
  rw [P_impl_PolSchema_ythingNames, p_impl_yrising hl, lenOk_pos hl, p_impl_ythingNames_l hs]
  simp only [Option.bind_some, typesOk]
  cases risingBy lessI l <;> simp
def kindOk (s : List DThingType) (kind : List Int) : Bool :=
  let base := bif hasP setP kind then kind.drop 4 else kind
  bif hasP refP base then isThing s (base.drop 4) else !decide (plainK base = 0)
def named (s : List DThingType) : Prop := ∀ t ∈ s, goodName t.1 = true
theorem named_no {s : List DThingType} (h : named s) : isThing s [] = false := by
  cases q : isThing s [] with
  | false => rfl
  | true =>
    obtain ⟨t, h1, h2⟩ := isThing_of q
    have := h t h1
    rw [h2] at this
    revert this; decide
/-- The reference's own: a head must leave something behind it. -/
def headP (h s : List Int) : Bool := decide (h.length < s.length) && hasP h s
def kindS (s : List DThingType) (kind : List Int) : Bool :=
  let base := bif headP setP kind then kind.drop 4 else kind
  bif headP refP base then isThing s (base.drop 4) else !decide (plainK base = 0)
theorem p_spec_l11GoodKind_b {s : DPolSchema} (hs : s.1.length ≤ maxLen) (base : List Int) : P_spec_l11GoodKind_1_3 base s = some (bif headP refP base then isThing s.1 (base.drop 4) else !decide (plainK base = 0)) := by
  rw [P_spec_l11GoodKind_1_3, p_spec_l11Head, P_spec_l3Has, lenOk_pos (by unfold maxLen; simp), p_spec_l3Has_k, six_mem]
  have hd2 : (decide (([114, 101, 102, 32] : List Int).length < base.length) && hasP ([114, 101, 102, 32] : List Int) base) = headP refP base := rfl
  rw [hd2]
  simp only [Option.bind_some]
  cases hr : headP refP base with
  | false => rfl
  | true =>
    have hl : 4 < base.length := by
      unfold headP at hr
      simp only [Bool.and_eq_true, decide_eq_true_eq] at hr
      exact hr.1
    have h4 : decide ((4 : Int) ≤ (base.length : Int)) = true := decide_eq_true (by omega)
    simp only [cond_true, Bool.true_and, h4, cut_four, p_spec_l11ThingType hs, Option.bind_some]
    rfl
theorem p_spec_l11GoodKind {s : DPolSchema} (hs : s.1.length ≤ maxLen) (kind : List Int) : P_spec_l11GoodKind s kind = some (kindS s.1 kind) := by
  rw [P_spec_l11GoodKind, p_spec_l11Head, p_spec_l11GoodKind_b hs, p_spec_l11GoodKind_b hs]
  have hd : (decide (([115, 101, 116, 32] : List Int).length < kind.length) && hasP ([115, 101, 116, 32] : List Int) kind) = headP setP kind := rfl
  rw [hd]
  simp only [Option.bind_some]
  unfold kindS
  cases hp : headP setP kind with
  | false => rfl
  | true =>
    have hl : 4 < kind.length := by
      unfold headP at hp
      simp only [Bool.and_eq_true, decide_eq_true_eq] at hp
      exact hp.1
    have h4 : decide ((4 : Int) ≤ (kind.length : Int)) = true := decide_eq_true (by omega)
    simp only [cond_true, Bool.true_and, h4, cut_four]
theorem kindS_eq {s : List DThingType} (hn : named s) (kind : List Int) : kindS s kind = kindOk s kind := by
  have base : ∀ b : List Int, (bif headP refP b then isThing s (b.drop 4) else !decide (plainK b = 0)) = (bif hasP refP b then isThing s (b.drop 4) else !decide (plainK b = 0)) := by
    intro b
    unfold headP
    cases hr : hasP refP b with
    | false => rw [Bool.and_false]
    | true =>
      by_cases hl : refP.length < b.length
      · rw [decide_eq_true hl]; rfl
      · have hnil : b.drop 4 = [] := List.drop_of_length_le (by have : ¬ 4 < b.length := hl; omega)
        have hz : plainK b = 0 := by rw [hasP_eq hr]; exact plain_ref _
        rw [decide_eq_false hl, hz, hnil, named_no hn]; rfl
  unfold kindS kindOk
  simp only [base]
  unfold headP
  cases hp : hasP setP kind with
  | false => rw [Bool.and_false]
  | true =>
    by_cases hl : setP.length < kind.length
    · rw [decide_eq_true hl]; rfl
    · have hnil : kind.drop 4 = [] := List.drop_of_length_le (by have : ¬ 4 < kind.length := hl; omega)
      have hks : kind = setP := by
        have he := hasP_eq hp
        have : kind.drop setP.length = [] := hnil
        rw [this, List.append_nil] at he; exact he
      rw [decide_eq_false hl, hnil, hks]; rfl
theorem p_impl_ygoodKind {g0 : List (List Int × Int)} (hg0 : ∀ k, getM .str g0 k 0 = plainK k) {s : DPolSchema} (hs : s.1.length ≤ maxLen) (kind : List Int) : P_impl_PolSchema_ygoodKind g0 s kind = some (kindOk s.1 kind) := by
  rw [P_impl_PolSchema_ygoodKind, p_TrimPrefix, Option.bind_some]
  have hd : hasP ([115, 101, 116, 32] : List Int) kind = hasP setP kind := rfl
  have hl : kind.drop ([115, 101, 116, 32] : List Int).length = kind.drop 4 := rfl
  rw [hd, hl]
  unfold kindOk
  generalize (bif hasP setP kind then kind.drop 4 else kind) = base
  rw [p_CutPrefix, Option.bind_some]
  have hd2 : hasP ([114, 101, 102, 32] : List Int) base = hasP refP base := rfl
  rw [hd2]
  have hpos : decide ((0 : Int) < plainK base) = !decide (plainK base = 0) := by
    have : 0 ≤ plainK base := by unfold plainK kindT; simp only [getM]; grind
    by_cases q : plainK base = 0
    · simp [q]
    · have : 0 < plainK base := by omega
      simp [q, this]
  cases hr : hasP refP base with
  | true => simp only [cond_true, p_impl_ything hs, Option.bind_some, hr]; rfl
  | false => simp only [cond_false, hg0, hpos, hr]
def attrsF (kf : List Int → Bool) (l : List DAttrKind) : Bool := decide (l.length ≤ 20) && (l.all (fun a => goodName a.1 && kf a.2.1) && risingBy (fun a b => lessI a.1 b.1) l)
theorem p_spec_l11GoodAttrs_l {s : DPolSchema} (hs : s.1.length ≤ maxLen) (xs : List DAttrKind) (hw : wfD (.list TyAttrKind) xs) : ∀ (r : List DAttrKind) (k : Nat), r = xs.drop k →
    P_spec_l11GoodAttrs_0_2 xs s r k = some (r.all (fun a => goodName a.1 && kindS s.1 a.2.1) && risingFrom (fun a b => lessI a.1 b.1) (before xs k) r && decide (xs.length ≤ 20))
  | [], k, h => by rw [risingFrom_nil, P_spec_l11GoodAttrs_0_2]; simp; omega
  | e :: r, k, h => by
    obtain ⟨h1, h2, h3, h4, h5⟩ := step_prev (d := Ty.dflt TyAttrKind) hw.1 h
    have we : wfD .str e.1 ∧ wfD .str e.2.1 ∧ _ := hw.2 e h4
    rw [P_spec_l11GoodAttrs_0_2, p_spec_GoodName (wfS_len we.1), p_spec_l11GoodKind hs, p_spec_l11GoodAttrs_l hs xs hw r (k + 1) h1, h2, risingFrom_cons, List.all_cons]
    simp only [Option.bind_some]
    rcases h5 with rfl | ⟨h5, h6, h7, h8⟩
    · simp only [before_zero, Int.natCast_zero, Int.lt_irrefl, decide_false, cond_false, and_c, or_c, some_cond, some_dec]
      clear hw we h h1 h2 hs
      grind (splits := 30)
    · have wp : wfD .str _ ∧ _ := hw.2 _ h8
      rw [h6, h7, decide_eq_true (show (0 : Int) < (k : Int) by omega), p_spec_l1CmpText wp.1 we.1]
      simp only [Option.bind_some, cmpStr_ge, cond_true, and_c, or_c, some_cond, some_dec]
      clear hw we h h1 h2 hs h7 h8 wp
      grind (splits := 30)
theorem p_spec_l11GoodAttrs {s : DPolSchema} (hs : s.1.length ≤ maxLen) {l : List DAttrKind} (hw : wfD (.list TyAttrKind) l) : P_spec_l11GoodAttrs s l = some (attrsF (kindS s.1) l) := by
  rw [P_spec_l11GoodAttrs, lenOk_pos hw.1, p_spec_l11GoodAttrs_l hs l hw l 0 rfl, before_zero, attrsF, risingBy]
  rw [Bool.and_comm]
theorem p_impl_ygoodAttrs_l {g0 : List (List Int × Int)} (hg0 : ∀ k, getM .str g0 k 0 = plainK k) {s : DPolSchema} (hs : s.1.length ≤ maxLen) (xs : List DAttrKind) (hw : wfD (.list TyAttrKind) xs) : ∀ (r : List DAttrKind) (k : Nat), r = xs.drop k →
    P_impl_PolSchema_ygoodAttrs_0_4 g0 xs s r k = some (r.all (fun a => goodName a.1 && kindOk s.1 a.2.1) && risingFrom (fun a b => lessI a.1 b.1) (before xs k) r)
  | [], k, h => by rw [risingFrom_nil, P_impl_PolSchema_ygoodAttrs_0_4]; rfl
  | e :: r, k, h => by
    obtain ⟨h1, h2, h3, h4, h5⟩ := step_prev (d := Ty.dflt TyAttrKind) hw.1 h
    have we : wfD .str e.1 ∧ wfD .str e.2.1 ∧ _ := hw.2 e h4
    rw [P_impl_PolSchema_ygoodAttrs_0_4, p_impl_GoodName (wfS_len we.1), p_impl_ygoodKind hg0 hs, p_impl_ygoodAttrs_l hg0 hs xs hw r (k + 1) h1, h2, risingFrom_cons, List.all_cons]
    simp only [Option.bind_some]
    rcases h5 with rfl | ⟨h5, h6, h7, h8⟩
    · simp only [before_zero, Int.natCast_zero, Int.lt_irrefl, decide_false, cond_false, and_c, or_c, some_cond, some_dec]
      clear hw we h h1 h2 hs hg0
      grind (splits := 30)
    · rw [h6, h7, decide_eq_true (show (0 : Int) < (k : Int) by omega)]
      simp only [cond_true, and_c, or_c, some_cond, some_dec]
      clear hw we h h1 h2 hs h7 h8 hg0
      grind (splits := 30)
theorem p_impl_ygoodAttrs {g0 : List (List Int × Int)} (hg0 : ∀ k, getM .str g0 k 0 = plainK k) {s : DPolSchema} (hs : s.1.length ≤ maxLen) {l : List DAttrKind} (hw : wfD (.list TyAttrKind) l) : P_impl_PolSchema_ygoodAttrs g0 s l = some (attrsF (kindOk s.1) l) := by
  rw [P_impl_PolSchema_ygoodAttrs, lenOk_pos hw.1, p_impl_ygoodAttrs_l hg0 hs l hw l 0 rfl, before_zero, attrsF, risingBy]
  by_cases h : l.length ≤ 20
  · rw [decide_eq_false (show ¬ (20 : Int) < (l.length : Int) by omega), decide_eq_true h]; simp
  · rw [decide_eq_true (show (20 : Int) < (l.length : Int) by omega), decide_eq_false h]; simp
def isIdB (c : Int) : Bool := isLetter c || isDigit c || decide (c = 95) || decide (c = 45) || decide (c = 46)
def goodId (s : List Int) : Bool := s.all isIdB && decide (1 ≤ s.length) && decide (s.length ≤ 40)
theorem p_spec_l7Id_l (xs : List Int) : ∀ s : List Int, P_spec_l7Id_0_2 xs s = some (s.all isIdB && (decide (1 ≤ xs.length) && decide (xs.length ≤ 40)))
  | [] => by
    rw [P_spec_l7Id_0_2]
    by_cases h : 1 ≤ xs.length
    · have h' : (1 : Int) ≤ (xs.length : Int) := by omega
      simp [h, h']; omega
    · have h' : ¬ (1 : Int) ≤ (xs.length : Int) := by omega
      simp [h, h']
  | e :: r => by
    rw [P_spec_l7Id_0_2, p_spec_l7Id_l xs r, t_spec_l1Letter, t_spec_l1Digit, List.all_cons, isIdB]
    grind
theorem p_spec_l7Id {s : List Int} (h : s.length ≤ maxLen) : P_spec_l7Id s = some (goodId s) := by
  rw [P_spec_l7Id, lenOk_pos h, p_spec_l7Id_l, goodId, Bool.and_assoc]
theorem p_impl_ygoodId_l : ∀ s : List Int, P_impl_ygoodId_0_4 s = some (s.all isIdB)
  | [] => rfl
  | e :: r => by
    rw [P_impl_ygoodId_0_4, p_impl_ygoodId_l r, t_impl_ywordByte, List.all_cons, isIdB, isWord]
    grind
theorem p_impl_ygoodId {s : List Int} (h : s.length ≤ maxLen) : P_impl_ygoodId s = some (goodId s) := by
  rw [P_impl_ygoodId, lenOk_pos h, p_impl_ygoodId_l, goodId]
  by_cases h1 : 1 ≤ s.length
  · by_cases h2 : s.length ≤ 40
    · have q1 : ¬ (s.length : Int) < 1 := by omega
      have q2 : ¬ (40 : Int) < (s.length : Int) := by omega
      simp [h1, h2, q1, q2]
    · have q1 : ¬ (s.length : Int) < 1 := by omega
      have q2 : (40 : Int) < (s.length : Int) := by omega
      simp [h1, h2, q1, q2]
  · have q1 : (s.length : Int) < 1 := by omega
    simp [h1, q1]
def goodThingT (kf : List Int → Bool) (s : List DThingType) (t : DThingType) : Bool := goodName t.1 && !decide (t.1 = [65, 99, 116, 105, 111, 110]) && typesOk s t.2.1 && attrsF kf t.2.2
def goodActT (kf : List Int → Bool) (s : List DThingType) (a : DActionType) : Bool := goodId a.1 && decide (1 ≤ a.2.1.length) && decide (1 ≤ a.2.2.1.length) && typesOk s a.2.1 && typesOk s a.2.2.1 && attrsF kf a.2.2.2
def goodPolsF (kf : List Int → Bool) (s : DPolSchema) : Bool := decide (s.1.length ≤ 20) && decide (s.2.length ≤ 20) && (s.1.all (goodThingT kf s.1) && risingFrom (fun a b => lessI a.1 b.1) none s.1 && (s.2.all (goodActT kf s.1) && risingFrom (fun a b => lessI a.1 b.1) none s.2))
structure PolIn (s : DPolSchema) : Prop where
  h1 : wfD (.list TyThingType) s.1
  h2 : wfD (.list TyActionType) s.2
theorem p_spec_GoodPolSchema_a {s : DPolSchema} (H : PolIn s) : ∀ (r : List DActionType) (k : Nat), r = s.2.drop k → P_spec_GoodPolSchema_0_10 s r k = some (r.all (goodActT (kindS s.1) s.1) && risingFrom (fun a b => lessI a.1 b.1) (before s.2 k) r)
  | [], k, h => by rw [risingFrom_nil]; rfl
  | e :: r, k, h => by
    obtain ⟨h1, h2, h3, h4, h5⟩ := step_prev (d := Ty.dflt TyActionType) H.h2.1 h
    have we : wfD .str e.1 ∧ wfD (.list .str) e.2.1 ∧ wfD (.list .str) e.2.2.1 ∧ wfD (.list TyAttrKind) e.2.2.2 := H.h2.2 e h4
    have n1 : decide ((e.2.1.length : Int) < 1) = !decide (1 ≤ e.2.1.length) := by rw [← decide_not]; exact decide_eq_decide.2 (by omega)
    have n2 : decide ((e.2.2.1.length : Int) < 1) = !decide (1 ≤ e.2.2.1.length) := by rw [← decide_not]; exact decide_eq_decide.2 (by omega)
    rw [P_spec_GoodPolSchema_0_10, p_spec_l7Id (wfS_len we.1), p_spec_l11GoodTypes H.h1.1 we.2.1, p_spec_l11GoodTypes H.h1.1 we.2.2.1, p_spec_l11GoodAttrs H.h1.1 we.2.2.2, p_spec_GoodPolSchema_a H r (k + 1) h1, h2, risingFrom_cons, List.all_cons]
    simp only [Option.bind_some, n1, n2]
    rcases h5 with rfl | ⟨h5, h6, h7, h8⟩
    · simp only [goodActT, before_zero, Int.natCast_zero, Int.lt_irrefl, decide_false, cond_false, and_c, or_c, some_cond, some_dec]
      clear we h h1 h2 n1 n2 H
      grind (splits := 40)
    · have wp : wfD .str _ ∧ _ := H.h2.2 _ h8
      rw [h6, h7, decide_eq_true (show (0 : Int) < (k : Int) by omega), p_spec_l1CmpText wp.1 we.1]
      simp only [Option.bind_some, goodActT, cmpStr_ge, cond_true, and_c, or_c, some_cond, some_dec]
      clear we h h1 h2 h7 h8 wp n1 n2 H
      grind (splits := 40)
theorem p_impl_GoodPolSchema_a {g0 : List (List Int × Int)} (hg0 : ∀ k, getM .str g0 k 0 = plainK k) {s : DPolSchema} (H : PolIn s) : ∀ (r : List DActionType) (k : Nat), r = s.2.drop k → P_impl_GoodPolSchema_0_10 g0 s r k = some (r.all (goodActT (kindOk s.1) s.1) && risingFrom (fun a b => lessI a.1 b.1) (before s.2 k) r)
  | [], k, h => by rw [risingFrom_nil]; rfl
  | e :: r, k, h => by
    obtain ⟨h1, h2, h3, h4, h5⟩ := step_prev (d := Ty.dflt TyActionType) H.h2.1 h
    have we : wfD .str e.1 ∧ wfD (.list .str) e.2.1 ∧ wfD (.list .str) e.2.2.1 ∧ wfD (.list TyAttrKind) e.2.2.2 := H.h2.2 e h4
    have n1 : decide ((e.2.1.length : Int) = 0) = !decide (1 ≤ e.2.1.length) := by rw [← decide_not]; exact decide_eq_decide.2 (by omega)
    have n2 : decide ((e.2.2.1.length : Int) = 0) = !decide (1 ≤ e.2.2.1.length) := by rw [← decide_not]; exact decide_eq_decide.2 (by omega)
    rw [P_impl_GoodPolSchema_0_10, p_impl_ygoodId (wfS_len we.1), p_impl_ythingNames H.h1.1 we.2.1.1, p_impl_ythingNames H.h1.1 we.2.2.1.1, p_impl_ygoodAttrs hg0 H.h1.1 we.2.2.2, p_impl_GoodPolSchema_a hg0 H r (k + 1) h1, h2, risingFrom_cons, List.all_cons]
    simp only [Option.bind_some, n1, n2]
    rcases h5 with rfl | ⟨h5, h6, h7, h8⟩
    · simp only [goodActT, before_zero, Int.natCast_zero, Int.lt_irrefl, decide_false, cond_false, and_c, or_c, some_cond, some_dec]
      clear we h h1 h2 n1 n2 H hg0
      grind (splits := 40)
    · rw [h6, h7, decide_eq_true (show (0 : Int) < (k : Int) by omega)]
      simp only [goodActT, cond_true, and_c, or_c, some_cond, some_dec]
      clear we h h1 h2 h7 h8 n1 n2 H hg0
      grind (splits := 40)
theorem p_spec_GoodPolSchema_t {s : DPolSchema} (H : PolIn s) : ∀ (r : List DThingType) (k : Nat), r = s.1.drop k →
    P_spec_GoodPolSchema_0_4 s r k = some (r.all (goodThingT (kindS s.1) s.1) && risingFrom (fun a b => lessI a.1 b.1) (before s.1 k) r && (s.2.all (goodActT (kindS s.1) s.1) && risingFrom (fun a b => lessI a.1 b.1) none s.2))
  | [], k, h => by rw [risingFrom_nil, P_spec_GoodPolSchema_0_4, lenOk_pos H.h2.1, p_spec_GoodPolSchema_a H s.2 0 rfl, before_zero]; simp
  | e :: r, k, h => by
    obtain ⟨h1, h2, h3, h4, h5⟩ := step_prev (d := Ty.dflt TyThingType) H.h1.1 h
    have we : wfD .str e.1 ∧ wfD (.list .str) e.2.1 ∧ wfD (.list TyAttrKind) e.2.2 := H.h1.2 e h4
    rw [P_spec_GoodPolSchema_0_4, p_spec_GoodName (wfS_len we.1), p_spec_l11GoodTypes H.h1.1 we.2.1, p_spec_l11GoodAttrs H.h1.1 we.2.2, p_spec_GoodPolSchema_t H r (k + 1) h1, h2, risingFrom_cons, List.all_cons]
    simp only [Option.bind_some]
    generalize (s.2.all (goodActT (kindS s.1) s.1) && risingFrom (fun a b => lessI a.1 b.1) none s.2) = T
    rcases h5 with rfl | ⟨h5, h6, h7, h8⟩
    · simp only [goodThingT, before_zero, Int.natCast_zero, Int.lt_irrefl, decide_false, cond_false, and_c, or_c, some_cond, some_dec]
      clear we h h1 h2 H
      grind (splits := 40)
    · have wp : wfD .str _ ∧ _ := H.h1.2 _ h8
      rw [h6, h7, decide_eq_true (show (0 : Int) < (k : Int) by omega), p_spec_l1CmpText wp.1 we.1]
      simp only [Option.bind_some, goodThingT, cmpStr_ge, cond_true, and_c, or_c, some_cond, some_dec]
      clear we h h1 h2 h7 h8 wp H
      grind (splits := 40)
theorem p_impl_GoodPolSchema_t {g0 : List (List Int × Int)} (hg0 : ∀ k, getM .str g0 k 0 = plainK k) {s : DPolSchema} (H : PolIn s) : ∀ (r : List DThingType) (k : Nat), r = s.1.drop k →
    P_impl_GoodPolSchema_0_4 g0 s r k = some (r.all (goodThingT (kindOk s.1) s.1) && risingFrom (fun a b => lessI a.1 b.1) (before s.1 k) r && (s.2.all (goodActT (kindOk s.1) s.1) && risingFrom (fun a b => lessI a.1 b.1) none s.2))
  | [], k, h => by rw [risingFrom_nil, P_impl_GoodPolSchema_0_4, lenOk_pos H.h2.1, p_impl_GoodPolSchema_a hg0 H s.2 0 rfl, before_zero]; simp
  | e :: r, k, h => by
    obtain ⟨h1, h2, h3, h4, h5⟩ := step_prev (d := Ty.dflt TyThingType) H.h1.1 h
    have we : wfD .str e.1 ∧ wfD (.list .str) e.2.1 ∧ wfD (.list TyAttrKind) e.2.2 := H.h1.2 e h4
    rw [P_impl_GoodPolSchema_0_4, p_impl_GoodName (wfS_len we.1), p_impl_ythingNames H.h1.1 we.2.1.1, p_impl_ygoodAttrs hg0 H.h1.1 we.2.2, p_impl_GoodPolSchema_t hg0 H r (k + 1) h1, h2, risingFrom_cons, List.all_cons]
    simp only [Option.bind_some]
    generalize (s.2.all (goodActT (kindOk s.1) s.1) && risingFrom (fun a b => lessI a.1 b.1) none s.2) = T
    rcases h5 with rfl | ⟨h5, h6, h7, h8⟩
    · simp only [goodThingT, before_zero, Int.natCast_zero, Int.lt_irrefl, decide_false, cond_false, and_c, or_c, some_cond, some_dec]
      clear we h h1 h2 H hg0
      grind (splits := 40)
    · rw [h6, h7, decide_eq_true (show (0 : Int) < (k : Int) by omega)]
      simp only [goodThingT, cond_true, and_c, or_c, some_cond, some_dec]
      clear we h h1 h2 h7 h8 H hg0
      grind (splits := 40)
theorem p_spec_GoodPolSchema {s : DPolSchema} (H : PolIn s) : P_spec_GoodPolSchema s = some (goodPolsF (kindS s.1) s) := by
  rw [P_spec_GoodPolSchema, lenOk_pos H.h1.1, p_spec_GoodPolSchema_t H s.1 0 rfl, before_zero, goodPolsF]
  by_cases h1 : s.1.length ≤ 20
  · by_cases h2 : s.2.length ≤ 20
    · rw [decide_eq_false (show ¬ (20 : Int) < (s.1.length : Int) by omega), decide_eq_false (show ¬ (20 : Int) < (s.2.length : Int) by omega), decide_eq_true h1, decide_eq_true h2]; rfl
    · rw [decide_eq_false (show ¬ (20 : Int) < (s.1.length : Int) by omega), decide_eq_true (show (20 : Int) < (s.2.length : Int) by omega), decide_eq_true h1, decide_eq_false h2]; rfl
  · rw [decide_eq_true (show (20 : Int) < (s.1.length : Int) by omega), decide_eq_false h1]; rfl
theorem p_impl_GoodPolSchema {g0 : List (List Int × Int)} (hg0 : ∀ k, getM .str g0 k 0 = plainK k) {s : DPolSchema} (H : PolIn s) : P_impl_GoodPolSchema g0 s = some (goodPolsF (kindOk s.1) s) := by
  rw [P_impl_GoodPolSchema, lenOk_pos H.h1.1, p_impl_GoodPolSchema_t hg0 H s.1 0 rfl, before_zero, goodPolsF]
  by_cases h1 : s.1.length ≤ 20
  · by_cases h2 : s.2.length ≤ 20
    · rw [decide_eq_false (show ¬ (20 : Int) < (s.1.length : Int) by omega), decide_eq_false (show ¬ (20 : Int) < (s.2.length : Int) by omega), decide_eq_true h1, decide_eq_true h2]; rfl
    · rw [decide_eq_false (show ¬ (20 : Int) < (s.1.length : Int) by omega), decide_eq_true (show (20 : Int) < (s.2.length : Int) by omega), decide_eq_true h1, decide_eq_false h2]; rfl
  · rw [decide_eq_true (show (20 : Int) < (s.1.length : Int) by omega), decide_eq_false h1]; rfl
def goodPols (s : DPolSchema) : Bool := goodPolsF (kindOk s.1) s
theorem goodPols_eq (s : DPolSchema) : goodPolsF (kindS s.1) s = goodPols s := by
  by_cases hn : named s.1
  · have : kindS s.1 = kindOk s.1 := funext fun k => kindS_eq hn k
    rw [this]; rfl
  · have bad : ∀ kf, s.1.all (goodThingT kf s.1) = false := by
      intro kf
      cases q : s.1.all (goodThingT kf s.1) with
      | false => rfl
      | true =>
        exfalso
        refine hn fun t ht => ?_
        have := List.all_eq_true.1 q t ht
        unfold goodThingT at this
        simp only [Bool.and_eq_true] at this
        exact this.1.1.1
    unfold goodPols goodPolsF
    rw [bad, bad]
    simp
theorem same_GoodPolSchema {g0 : List (List Int × Int)} (hg0 : ∀ k, getM .str g0 k 0 = plainK k) {s : DPolSchema} (hw : wfD TyPolSchema s) : P_spec_GoodPolSchema s = some (goodPols s) ∧ P_impl_GoodPolSchema g0 s = some (goodPols s) := by
  have w : wfD (.list TyThingType) s.1 ∧ wfD (.list TyActionType) s.2 := hw
  exact ⟨by rw [p_spec_GoodPolSchema ⟨w.1, w.2⟩, goodPols_eq], p_impl_GoodPolSchema hg0 ⟨w.1, w.2⟩⟩
theorem p_Index_str (a : List Int) : ∀ (l : List (List Int)) (k : Nat), ∃ y : Int, P_slices_Index_string_string_0_2 a l k = some y ∧ decide (0 ≤ y) = decide (a ∈ l)
  | [], k => ⟨-1, rfl, by simp⟩
  | e :: r, k => by
    obtain ⟨y, h1, h2⟩ := p_Index_str a r (k + 1)
    rw [P_slices_Index_string_string_0_2, h1]
    by_cases h : a = e
    · subst h
      exact ⟨k, by simp, by simp⟩
    · refine ⟨y, by simp [h], ?_⟩
      rw [h2]
      simp [h]
theorem p_Contains_str {l : List (List Int)} (h : l.length ≤ maxLen) (a : List Int) : P_slices_Contains_string_string l a = some (decide (a ∈ l)) := by
  obtain ⟨y, h1, h2⟩ := p_Index_str a l 0
  rw [P_slices_Contains_string_string, P_slices_Index_string_string, lenOk_pos h, h1, Option.bind_some, h2]
def attrOf : List DAttrKind → List Int → DAttrKind × Bool
  | [], _ => (([], [], false), false)
  | e :: r, n => bif decide (e.1 = n) then (e, true) else attrOf r n
theorem p_spec_l11Attr_l (n : List Int) : ∀ l, P_spec_l11Attr_0_2 n l = some (attrOf l n)
  | [] => rfl
  | e :: r => by rw [P_spec_l11Attr_0_2, p_spec_l11Attr_l n r, attrOf]; cases decide (e.1 = n) <;> rfl
theorem p_spec_l11Attr {l : List DAttrKind} (h : l.length ≤ maxLen) (n : List Int) : P_spec_l11Attr l n = some (attrOf l n) := by rw [P_spec_l11Attr, lenOk_pos h, p_spec_l11Attr_l]
theorem attrOf_wf : ∀ {l : List DAttrKind}, (∀ a ∈ l, wfD TyAttrKind a) → ∀ n, wfD TyAttrKind (attrOf l n).1
  | [], _, n => ⟨⟨Nat.zero_le _, fun b hb => by cases hb⟩, ⟨Nat.zero_le _, fun b hb => by cases hb⟩, trivial⟩
  | e :: r, h, n => by
    rw [attrOf]
    cases decide (e.1 = n) with
    | true => exact h e (by simp)
    | false => exact attrOf_wf (fun a ha => h a (by simp [ha])) n
def actOf : List DActionType → List Int → DActionType × Bool
  | [], _ => (([], [], [], []), false)
  | e :: r, n => bif decide (e.1 = n) then (e, true) else actOf r n
theorem p_spec_l11Action_l (n : List Int) : ∀ l, P_spec_l11Action_0_2 n l = some (actOf l n)
  | [] => rfl
  | e :: r => by rw [P_spec_l11Action_0_2, p_spec_l11Action_l n r, actOf]; cases decide (e.1 = n) <;> rfl
theorem p_impl_yaction_l (n : List Int) : ∀ l, P_impl_PolSchema_yaction_0_2_1003 n l = some (actOf l n)
  | [] => rfl
  | e :: r => by rw [P_impl_PolSchema_yaction_0_2_1003, p_impl_yaction_l n r, actOf]; cases decide (e.1 = n) <;> rfl
theorem p_spec_l11Action {s : DPolSchema} (h : s.2.length ≤ maxLen) (n : List Int) : P_spec_l11Action s n = some (actOf s.2 n) := by rw [P_spec_l11Action, lenOk_pos h, p_spec_l11Action_l]
theorem p_impl_yaction {s : DPolSchema} (h : s.2.length ≤ maxLen) (n : List Int) : P_impl_PolSchema_yaction s n = some (actOf s.2 n) := by rw [P_impl_PolSchema_yaction, lenOk_pos h, p_impl_yaction_l]
theorem nil_wf {t : Ty} : wfD (.list t) [] := ⟨Nat.zero_le _, fun b hb => by cases hb⟩
theorem actOf_wf : ∀ {l : List DActionType}, (∀ a ∈ l, wfD TyActionType a) → ∀ n, wfD TyActionType (actOf l n).1
  | [], _, n => ⟨⟨Nat.zero_le _, fun b hb => by cases hb⟩, nil_wf, nil_wf, nil_wf⟩
  | e :: r, h, n => by
    rw [actOf]
    cases decide (e.1 = n) with
    | true => exact h e (by simp)
    | false => exact actOf_wf (fun a ha => h a (by simp [ha])) n
theorem thingOf_wf : ∀ {l : List DThingType}, (∀ a ∈ l, wfD TyThingType a) → ∀ n, wfD TyThingType (thingOf l n).1
  | [], _, n => ⟨⟨Nat.zero_le _, fun b hb => by cases hb⟩, nil_wf, nil_wf⟩
  | e :: r, h, n => by
    rw [thingOf]
    cases decide (e.1 = n) with
    | true => exact h e (by simp)
    | false => exact thingOf_wf (fun a ha => h a (by simp [ha])) n
def hasThing (l : List DThing) (a : DAtom) : Bool := l.any fun t => decide (t.1 = a)
theorem p_spec_l11Thing_h (a : DAtom) : ∀ xs : List DThing, ∃ y, P_spec_l11Thing_0_2 a xs = some y ∧ y.2 = hasThing xs a
  | [] => ⟨_, rfl, rfl⟩
  | e :: r => by
    obtain ⟨y, h1, h2⟩ := p_spec_l11Thing_h a r
    rw [P_spec_l11Thing_0_2]
    by_cases h : e.1 = a
    · subst h
      exact ⟨(e, true), by simp, by simp [hasThing]⟩
    · refine ⟨y, by simp [h, h1], ?_⟩
      rw [h2]
      simp [hasThing, h]
theorem p_spec_l11Thing_b {xs : List DThing} (h : xs.length ≤ maxLen) (a : DAtom) : ∃ y, P_spec_l11Thing xs a = some y ∧ y.2 = hasThing xs a := by
  rw [P_spec_l11Thing, lenOk_pos h]
  exact p_spec_l11Thing_h a xs
def refIn (l : List DThing) (a : DAtom) : Bool := !decide (a.1 = 4) || hasThing l a
def refsIn (l : List DThing) (v : DValue) : Bool := (T_impl_yatomsOf v).all (refIn l)
def mustIn (n : List (List Int)) (a : DAttrKind) : Bool := !a.2.2 || decide (a.1 ∈ n)
def fieldsIn (l : List DThing) (at_ : List DAttrKind) (vs : List DValue) : List (List Int) → Nat → Bool
  | [], _ => true
  | e :: r, k => (attrOf at_ e).2 && fits (rd vs (k : Int) (Ty.dflt TyValue)) (attrOf at_ e).1.2.1 && refsIn l (rd vs (k : Int) (Ty.dflt TyValue)) && fieldsIn l at_ vs r (k + 1)
def typed (l : List DThing) (at_ : List DAttrKind) (n : List (List Int)) (vs : List DValue) : Bool := fieldsIn l at_ vs n 0 && at_.all (mustIn n)
theorem p_spec_l11Typed_r {l : List DThing} (hl : l.length ≤ maxLen) (K : Bool) : ∀ xs : List DAtom, P_spec_l11Typed_0_8 (some K) l xs = some (xs.all (refIn l) && K)
  | [] => by rw [P_spec_l11Typed_0_8]; rfl
  | e :: r => by
    obtain ⟨y, h1, h2⟩ := p_spec_l11Thing_b hl e
    rw [P_spec_l11Typed_0_8, h1, Option.bind_some, p_spec_l11Typed_r hl K r, h2, List.all_cons, refIn]
    cases decide (e.1 = 4) <;> cases hasThing l e <;> rfl
theorem p_impl_yfieldsFit_r (g : List (List Int × Int)) {l : List DThing} (hl : l.length ≤ maxLen) (K : Bool) : ∀ xs : List DAtom, P_impl_yfieldsFit_0_8 g (some K) l xs = some (xs.all (refIn l) && K)
  | [] => by rw [P_impl_yfieldsFit_0_8]; rfl
  | e :: r => by
    obtain ⟨y, h1, h2⟩ := p_spec_l11Thing_b hl e
    rw [P_impl_yfieldsFit_0_8, p_impl_yfindThing, h1, Option.bind_some, p_impl_yfieldsFit_r g hl K r, h2, List.all_cons, refIn]
    cases decide (e.1 = 4) <;> cases hasThing l e <;> rfl
theorem p_spec_l11Typed_m {n : List (List Int)} (hn : n.length ≤ maxLen) : ∀ l : List DAttrKind, P_spec_l11Typed_0_16 n l = some (l.all (mustIn n))
  | [] => rfl
  | e :: r => by
    rw [P_spec_l11Typed_0_16, p_spec_l3Has hn, Option.bind_some, p_spec_l11Typed_m hn r, List.all_cons, mustIn]
    cases e.2.2 <;> cases decide (e.1 ∈ n) <;> rfl
theorem p_impl_yfieldsFit_m (g : List (List Int × Int)) {n : List (List Int)} (hn : n.length ≤ maxLen) : ∀ (l : List DAttrKind) (k : Nat), P_impl_yfieldsFit_0_2_1002_15002 g n l k = some (l.all (mustIn n))
  | [], k => rfl
  | e :: r, k => by
    rw [P_impl_yfieldsFit_0_2_1002_15002, p_Contains_str hn, Option.bind_some, p_impl_yfieldsFit_m g hn r (k + 1), List.all_cons, mustIn, nat0]
    cases e.2.2 <;> cases decide (e.1 ∈ n) <;> rfl
theorem refsIn_spec {l : List DThing} {v : DValue} {kind : List Int} (h : fits v kind = true) : (([v.2.1] : List DAtom) ++ v.2.2.1).all (refIn l) = refsIn l v := by
  unfold fits at h
  simp only [Bool.and_eq_true] at h
  obtain ⟨hg, hk⟩ := h
  unfold refsIn T_impl_yatomsOf
  by_cases h1 : v.1 = 1
  · have : v.2.2.1.length = 0 := by
      unfold goodValue at hg
      simp [h1] at hg
      simp [hg]
    rw [List.length_eq_zero_iff] at this
    simp [h1, this]
  · have h2 : v.1 = 2 := by
      cases hp : hasP setP kind <;> simp [hp, h1] at hk
      exact hk.1.2
    have h3 : v.2.1 = (0, 0, [], []) := by
      unfold goodValue at hg
      simp [h2] at hg
      exact hg.1.1.1
    have h4 : refIn l v.2.1 = true := by rw [h3]; rfl
    simp [h1, h4]
theorem rd_wf {t : Ty} {vs : List t.den} (h : wfD (.list t) vs) {k : Nat} (hk : k < vs.length) : wfD t (rd vs (k : Int) t.dflt) := by
  rw [rd_nat (List.getElem?_eq_getElem hk)]
  exact h.2 _ (List.getElem_mem _)
theorem p_spec_l11Typed_l {l : List DThing} {at_ : List DAttrKind} {n : List (List Int)} {vs : List DValue} (hl : l.length ≤ maxLen) (ha : wfD (.list TyAttrKind) at_) (hn : n.length ≤ maxLen) (hv : wfD (.list TyValue) vs) (hlen : vs.length = n.length) :
    ∀ (r : List (List Int)) (k : Nat), r = n.drop k → P_spec_l11Typed_0_2 l at_ n vs r k = some (fieldsIn l at_ vs r k && at_.all (mustIn n))
  | [], k, _ => by rw [P_spec_l11Typed_0_2, lenOk_pos ha.1, p_spec_l11Typed_m hn]; rfl
  | e :: r, k, hr => by
    obtain ⟨hk, _, hr2⟩ := drop_cons (d := ([] : List Int)) hr
    have hw := rd_wf hv (show k < vs.length by omega)
    have hf := p_spec_FitsKind hw (kind := (attrOf at_ e).1.2.1) (wfS_len (attrOf_wf ha.2 e).2.1)
    rw [P_spec_l11Typed_0_2, p_spec_l11Attr ha.1, Option.bind_some, inB_nat2 (show k < vs.length by omega), cond_true, hf, Option.bind_some, p_spec_l11Typed_l hl ha hn hv hlen r (k + 1) hr2, fieldsIn, p_spec_l11Typed_r hl]
    generalize hq : rd vs (k : Int) (Ty.dflt TyValue) = v at *
    cases (attrOf at_ e).2 with
    | false => rfl
    | true =>
      cases hfit : fits v (attrOf at_ e).1.2.1 with
      | false => rfl
      | true =>
        have hg : v.2.2.1.length ≤ 50 := by
          have hfit := hfit
          unfold fits at hfit
          simp only [Bool.and_eq_true] at hfit
          have h := hfit.1
          unfold goodValue at h
          grind
        have hb : (decide (((([(v.2.1)] : List DAtom).length : Int) + ((v.2.2.1).length : Int)) * 48 ≤ room) && decide ((([(v.2.1)] : List DAtom).length : Int) + ((v.2.2.1).length : Int) ≤ room)) = true := by
          rw [room_eq]; simp; omega
        simp only [cond_true, Bool.not_true, cond_false, hb]
        rw [lenOk_pos (by simp; unfold maxLen; omega), refsIn_spec hfit, Bool.and_assoc, Bool.true_and, Bool.true_and]
theorem p_spec_l11Typed {l : List DThing} {at_ : List DAttrKind} {n : List (List Int)} {vs : List DValue} (hl : l.length ≤ maxLen) (ha : wfD (.list TyAttrKind) at_) (hn : n.length ≤ maxLen) (hv : wfD (.list TyValue) vs) (hlen : vs.length = n.length) :
    P_spec_l11Typed l at_ n vs = some (typed l at_ n vs) := by rw [P_spec_l11Typed, lenOk_pos hn, p_spec_l11Typed_l hl ha hn hv hlen n 0 rfl, typed]
theorem p_impl_yfieldsFit_a {g : List (List Int × Int)} (hg : ∀ k, getM .str g k 0 = plainK k) {l : List DThing} (hl : l.length ≤ maxLen) {vs : List DValue} (hv : wfD (.list TyValue) vs) {k : Nat} (hk : k < vs.length) (e : List Int) (K : Bool) :
    ∀ at_ : List DAttrKind, (∀ a ∈ at_, wfD TyAttrKind a) → P_impl_yfieldsFit_0_2_4002 g (some K) l vs (k : Int) e at_ = some ((attrOf at_ e).2 && fits (rd vs (k : Int) (Ty.dflt TyValue)) (attrOf at_ e).1.2.1 && refsIn l (rd vs (k : Int) (Ty.dflt TyValue)) && K)
  | [], _ => rfl
  | a :: r, h => by
    have hw := rd_wf hv hk
    have hf := p_impl_FitsKind hg hw (kind := a.2.1) (wfS_len (h a (by simp)).2.1)
    rw [P_impl_yfieldsFit_0_2_4002, p_impl_yfieldsFit_a hg hl hv hk e K r (fun x hx => h x (by simp [hx])), attrOf]
    cases decide (a.1 = e) with
    | false => rfl
    | true =>
      simp only [cond_true, inB_nat2 hk, hf, Option.bind_some, p_impl_yfieldsFit_r g hl]
      generalize hq : rd vs (k : Int) (Ty.dflt TyValue) = v at *
      cases hfit : fits v a.2.1 with
      | false => rfl
      | true =>
        have hlen : (T_impl_yatomsOf v).length ≤ maxLen := by
          unfold T_impl_yatomsOf
          cases decide (v.1 = 1) with
          | true => show (1 : Nat) ≤ maxLen; unfold maxLen; omega
          | false => exact hw.2.2.1.1
        rw [lenOk_pos hlen]
        rfl
theorem p_impl_yfieldsFit_l {g : List (List Int × Int)} (hg : ∀ k, getM .str g k 0 = plainK k) {l : List DThing} {at_ : List DAttrKind} {n : List (List Int)} {vs : List DValue} (hl : l.length ≤ maxLen) (ha : wfD (.list TyAttrKind) at_) (hn : n.length ≤ maxLen) (hv : wfD (.list TyValue) vs) (hlen : vs.length = n.length) :
    ∀ (r : List (List Int)) (k : Nat), r = n.drop k → P_impl_yfieldsFit_0_2 g l vs at_ n r k = some (fieldsIn l at_ vs r k && at_.all (mustIn n))
  | [], k, _ => by rw [P_impl_yfieldsFit_0_2, lenOk_pos ha.1, p_impl_yfieldsFit_m g hn]; rfl
  | e :: r, k, hr => by
    obtain ⟨hk, _, hr2⟩ := drop_cons (d := ([] : List Int)) hr
    rw [P_impl_yfieldsFit_0_2, lenOk_pos ha.1, p_impl_yfieldsFit_l hg hl ha hn hv hlen r (k + 1) hr2, p_impl_yfieldsFit_a hg hl hv (show k < vs.length by omega) e _ at_ ha.2, fieldsIn]
    simp only [Bool.and_assoc]
theorem p_impl_yfieldsFit {g : List (List Int × Int)} (hg : ∀ k, getM .str g k 0 = plainK k) {l : List DThing} {at_ : List DAttrKind} {n : List (List Int)} {vs : List DValue} (hl : l.length ≤ maxLen) (ha : wfD (.list TyAttrKind) at_) (hn : n.length ≤ maxLen) (hv : wfD (.list TyValue) vs) (hlen : vs.length = n.length) :
    P_impl_yfieldsFit g l n vs at_ = some (typed l at_ n vs) := by rw [P_impl_yfieldsFit, lenOk_pos hn, p_impl_yfieldsFit_l hg hl ha hn hv hlen n 0 rfl, typed]
def parentIn (l : List DThing) (t : DThingType) (a : DAtom) : Bool := hasThing l a && decide (a.2.2.2 ∈ t.2.1)
def thingIn (s : DPolSchema) (l : List DThing) (t : DThing) : Bool :=
  (thingOf s.1 t.1.2.2.2).2 && typed l (thingOf s.1 t.1.2.2.2).1.2.2 t.2.2.1 t.2.2.2 && t.2.1.all (parentIn l (thingOf s.1 t.1.2.2.2).1)
def reqIn (s : DPolSchema) (l : List DThing) (r : DRequest) : Bool :=
  (actOf s.2 r.2.1.2.2.1).2 && decide (r.2.1.2.2.2 = [65, 99, 116, 105, 111, 110]) && hasThing l r.1 && hasThing l r.2.2.1 && decide (r.1.2.2.2 ∈ (actOf s.2 r.2.1.2.2.1).1.2.1) && decide (r.2.2.1.2.2.2 ∈ (actOf s.2 r.2.1.2.2.1).1.2.2.1) &&
    typed l (actOf s.2 r.2.1.2.2.1).1.2.2.2 r.2.2.2.1 r.2.2.2.2
theorem fields_len {n : List (List Int)} {v : List DValue} (h : goodFields n v = true) : v.length = n.length := by
  unfold goodFields at h
  simp only [Bool.and_eq_true, decide_eq_true_eq] at h
  exact h.1.1.1.2
theorem p_spec_GoodWorld_p {l : List DThing} (hl : l.length ≤ maxLen) {t : DThingType} (ht : t.2.1.length ≤ maxLen) (K : Bool) : ∀ xs : List DAtom, P_spec_GoodWorld_0_10 (some K) l t xs = some (xs.all (parentIn l t) && K)
  | [] => by rw [P_spec_GoodWorld_0_10]; rfl
  | e :: r => by
    obtain ⟨y, h1, h2⟩ := p_spec_l11Thing_b hl e
    rw [P_spec_GoodWorld_0_10, h1, Option.bind_some, p_spec_GoodWorld_p hl ht K r, h2, List.all_cons, parentIn, p_spec_l3Has ht, Option.bind_some]
    cases decide (e.2.2.2 ∈ t.2.1) <;> cases hasThing l e <;> rfl
theorem p_impl_GoodWorld_p (g : List (List Int × Int)) {l : List DThing} (hl : l.length ≤ maxLen) {t : DThingType} (ht : t.2.1.length ≤ maxLen) (K : Bool) : ∀ xs : List DAtom, P_impl_GoodWorld_0_10 g (some K) l t xs = some (xs.all (parentIn l t) && K)
  | [] => by rw [P_impl_GoodWorld_0_10]; rfl
  | e :: r => by
    obtain ⟨y, h1, h2⟩ := p_spec_l11Thing_b hl e
    rw [P_impl_GoodWorld_0_10, p_impl_yfindThing, h1, Option.bind_some, p_impl_GoodWorld_p g hl ht K r, h2, List.all_cons, parentIn, p_Contains_str ht, Option.bind_some]
    cases decide (e.2.2.2 ∈ t.2.1) <;> cases hasThing l e <;> rfl
theorem p_spec_GoodWorld_l {s : DPolSchema} {l : List DThing} {r : DRequest} (hs : wfD TyPolSchema s) (hl : wfD (.list TyThing) l) (hr : wfD TyRequest r) (hrl : r.2.2.2.2.length = r.2.2.2.1.length) :
    ∀ xs : List DThing, (∀ t ∈ xs, t ∈ l ∧ t.2.2.2.length = t.2.2.1.length) → P_spec_GoodWorld_0_4 l s r xs = some (xs.all (thingIn s l) && reqIn s l r)
  | [], _ => by
    have w : wfD (.list TyThingType) s.1 ∧ wfD (.list TyActionType) s.2 := hs
    have wr : wfD TyAtom r.1 ∧ wfD TyAtom r.2.1 ∧ wfD TyAtom r.2.2.1 ∧ wfD (.list .str) r.2.2.2.1 ∧ wfD (.list TyValue) r.2.2.2.2 := hr
    obtain ⟨y, h1, h2⟩ := p_spec_l11Thing_b hl.1 r.1
    obtain ⟨z, h3, h4⟩ := p_spec_l11Thing_b hl.1 r.2.2.1
    have wa := actOf_wf w.2.2 r.2.1.2.2.1
    rw [P_spec_GoodWorld_0_4, p_spec_l11Action w.2.1, Option.bind_some, h1, Option.bind_some, h3, Option.bind_some, p_spec_l3Has wa.2.1.1, p_spec_l3Has wa.2.2.1.1, p_spec_l11Typed hl.1 wa.2.2.2 wr.2.2.2.1.1 wr.2.2.2.2 hrl]
    simp only [Option.bind_some, h2, h4, List.all_nil, Bool.true_and, reqIn]
    cases (actOf s.2 r.2.1.2.2.1).2 <;> cases hasThing l r.1 <;> cases hasThing l r.2.2.1 <;> cases decide (r.2.1.2.2.2 = [65, 99, 116, 105, 111, 110]) <;> cases decide (r.1.2.2.2 ∈ (actOf s.2 r.2.1.2.2.1).1.2.1) <;> cases decide (r.2.2.1.2.2.2 ∈ (actOf s.2 r.2.1.2.2.1).1.2.2.1) <;> rfl
  | t :: xs, h => by
    have w : wfD (.list TyThingType) s.1 ∧ wfD (.list TyActionType) s.2 := hs
    have wt := thingOf_wf w.1.2 t.1.2.2.2
    have tw : wfD TyAtom t.1 ∧ wfD (.list TyAtom) t.2.1 ∧ wfD (.list .str) t.2.2.1 ∧ wfD (.list TyValue) t.2.2.2 := hl.2 t (h t (by simp)).1
    rw [P_spec_GoodWorld_0_4, p_spec_l11ThingType w.1.1, Option.bind_some, p_spec_l11Typed hl.1 wt.2.2 tw.2.2.1.1 tw.2.2.2 (h t (by simp)).2, Option.bind_some, p_spec_GoodWorld_l hs hl hr hrl xs (fun x hx => h x (by simp [hx])), lenOk_pos tw.2.1.1,
      p_spec_GoodWorld_p hl.1 wt.2.1.1, List.all_cons, thingIn]
    cases (thingOf s.1 t.1.2.2.2).2 <;> cases typed l (thingOf s.1 t.1.2.2.2).1.2.2 t.2.2.1 t.2.2.2 <;> simp [Bool.and_assoc]
theorem p_impl_GoodWorld_l {g : List (List Int × Int)} (hg : ∀ k, getM .str g k 0 = plainK k) {s : DPolSchema} {l : List DThing} {r : DRequest} (hs : wfD TyPolSchema s) (hl : wfD (.list TyThing) l) (hr : wfD TyRequest r) (hrl : r.2.2.2.2.length = r.2.2.2.1.length) :
    ∀ xs : List DThing, (∀ t ∈ xs, t ∈ l ∧ t.2.2.2.length = t.2.2.1.length) → P_impl_GoodWorld_0_4 g l s r xs = some (xs.all (thingIn s l) && reqIn s l r)
  | [], _ => by
    have w : wfD (.list TyThingType) s.1 ∧ wfD (.list TyActionType) s.2 := hs
    have wr : wfD TyAtom r.1 ∧ wfD TyAtom r.2.1 ∧ wfD TyAtom r.2.2.1 ∧ wfD (.list .str) r.2.2.2.1 ∧ wfD (.list TyValue) r.2.2.2.2 := hr
    obtain ⟨y, h1, h2⟩ := p_spec_l11Thing_b hl.1 r.1
    obtain ⟨z, h3, h4⟩ := p_spec_l11Thing_b hl.1 r.2.2.1
    have wa := actOf_wf w.2.2 r.2.1.2.2.1
    rw [P_impl_GoodWorld_0_4, p_impl_yaction w.2.1, Option.bind_some, p_impl_yfindThing, h1, Option.bind_some, p_impl_yfindThing, h3, Option.bind_some, p_Contains_str wa.2.1.1, p_Contains_str wa.2.2.1.1, p_impl_yfieldsFit hg hl.1 wa.2.2.2 wr.2.2.2.1.1 wr.2.2.2.2 hrl]
    simp only [Option.bind_some, h2, h4, List.all_nil, Bool.true_and, reqIn]
    cases (actOf s.2 r.2.1.2.2.1).2 <;> cases hasThing l r.1 <;> cases hasThing l r.2.2.1 <;> cases decide (r.2.1.2.2.2 = [65, 99, 116, 105, 111, 110]) <;> cases decide (r.1.2.2.2 ∈ (actOf s.2 r.2.1.2.2.1).1.2.1) <;> cases decide (r.2.2.1.2.2.2 ∈ (actOf s.2 r.2.1.2.2.1).1.2.2.1) <;> rfl
  | t :: xs, h => by
    have w : wfD (.list TyThingType) s.1 ∧ wfD (.list TyActionType) s.2 := hs
    have wt := thingOf_wf w.1.2 t.1.2.2.2
    have tw : wfD TyAtom t.1 ∧ wfD (.list TyAtom) t.2.1 ∧ wfD (.list .str) t.2.2.1 ∧ wfD (.list TyValue) t.2.2.2 := hl.2 t (h t (by simp)).1
    rw [P_impl_GoodWorld_0_4, p_impl_ything w.1.1, Option.bind_some, p_impl_yfieldsFit hg hl.1 wt.2.2 tw.2.2.1.1 tw.2.2.2 (h t (by simp)).2, Option.bind_some, p_impl_GoodWorld_l hg hs hl hr hrl xs (fun x hx => h x (by simp [hx])), lenOk_pos tw.2.1.1,
      p_impl_GoodWorld_p g hl.1 wt.2.1.1, List.all_cons, thingIn]
    cases (thingOf s.1 t.1.2.2.2).2 <;> cases typed l (thingOf s.1 t.1.2.2.2).1.2.2 t.2.2.1 t.2.2.2 <;> simp [Bool.and_assoc]
theorem same_GoodWorld {g : List (List Int × Int)} (hg : ∀ k, getM .str g k 0 = plainK k) {s : DPolSchema} {l : List DThing} {r : DRequest} (hs : wfD TyPolSchema s) (hl : wfD (.list TyThing) l) (hr : wfD TyRequest r) :
    ∃ b, P_spec_GoodWorld s l r = some b ∧ P_impl_GoodWorld g s l r = some b := by
  obtain ⟨s1, s2⟩ := same_GoodPolSchema hg hs
  rw [P_spec_GoodWorld, P_impl_GoodWorld, s1, s2, Option.bind_some, Option.bind_some, p_spec_GoodThings hl, p_impl_GoodThings hl, Option.bind_some, Option.bind_some, p_spec_GoodRequest hr, p_impl_GoodRequest hr, Option.bind_some, Option.bind_some]
  cases goodPols s with
  | false => exact ⟨false, rfl, rfl⟩
  | true =>
    cases ht : goodThings l with
    | false => exact ⟨false, rfl, rfl⟩
    | true =>
      cases hq : goodRequest r with
      | false => exact ⟨false, rfl, rfl⟩
      | true =>
        have hrl : r.2.2.2.2.length = r.2.2.2.1.length := by
          unfold goodRequest at hq
          simp only [Bool.and_eq_true] at hq
          exact fields_len hq.2
        have htl : ∀ t ∈ l, t ∈ l ∧ t.2.2.2.length = t.2.2.1.length := by
          intro t h
          unfold goodThings at ht
          simp only [Bool.and_eq_true] at ht
          have := List.all_eq_true.1 ht.2.1 t h
          unfold goodThing at this
          simp only [Bool.and_eq_true] at this
          exact ⟨h, fields_len this.2⟩
        refine ⟨l.all (thingIn s l) && reqIn s l r, ?_, ?_⟩
        rotate_left 1
        · simp only [Bool.not_true, cond_false]
          rw [lenOk_pos hl.1, p_impl_GoodWorld_l hg hs hl hr hrl l htl]
        · simp only [Bool.not_true, cond_false]
          rw [lenOk_pos hl.1, p_spec_GoodWorld_l hs hl hr hrl l htl]
theorem law_GoodWorld (g0 : List (List Int × Int)) (hg0 : ∀ k, getM .str g0 k 0 = plainK k) (a0 : DPolSchema) (a1 : List DThing) (a2 : DRequest) (h0 : wfD TyPolSchema a0) (h1 : wfD (.list TyThing) a1) (h2 : wfD TyRequest a2) : P_laws_FnExactGoodWorld g0 a0 a1 a2 = some true := by
  rw [P_laws_FnExactGoodWorld, szC_some h0 (by omega) (by omega)]
  simp only [Option.bind_some]
  cases d0 : decide (lessZ 1048576 (Ty.size TyPolSchema a0) < 0) with
  | true => rfl
  | false =>
  have b0 := bud_of d0
  rw [szC_some h1 b0.2.1 (by omega)]
  simp only [Option.bind_some, cond_false]
  cases d1 : decide (lessZ (lessZ 1048576 (Ty.size TyPolSchema a0)) (Ty.size (.list TyThing) a1) < 0) with
  | true => rfl
  | false =>
  have b1 := bud_of d1
  rw [szC_some h2 b1.2.1 (by omega)]
  simp only [Option.bind_some, cond_false]
  cases d2 : decide (lessZ (lessZ (lessZ 1048576 (Ty.size TyPolSchema a0)) (Ty.size (.list TyThing) a1)) (Ty.size TyRequest a2) < 0) with
  | true => rfl
  | false =>
  have b2 := bud_of d2
  obtain ⟨b, s1, s2⟩ := same_GoodWorld hg0 h0 h1 h2
  simp only [cond_false, toC_some h0 (by omega), toC_some h1 (by omega), toC_some h2 (by omega), Option.bind_some, s1, s2, eqC_some h0, eqC_some h1, eqC_some h2]
  simp

end
end Go.Ab
