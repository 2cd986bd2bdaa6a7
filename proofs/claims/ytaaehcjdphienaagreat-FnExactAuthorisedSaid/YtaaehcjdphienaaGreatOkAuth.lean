/-
  What the functions come to, in plain words.
-/
import Derived.Test.YtaaehcjdphienaaGreatGenAuth
import Derived.Test.YtaaehcjdphienaaGreatPlain1
namespace Go.Ab
open Go.Proofs
noncomputable section
theorem t_spec_l1Digit (x : Int) : T_spec_l1Digit x = isDigit x := by unfold T_spec_l1Digit isDigit; grind
theorem t_impl_ydigit (x : Int) : T_impl_ydigit x = isDigit x := by unfold T_impl_ydigit isDigit; grind
theorem t_spec_l1Letter (x : Int) : T_spec_l1Letter x = isLetter x := by unfold T_spec_l1Letter isLetter; grind
theorem t_impl_yletter (x : Int) : T_impl_yletter x = isLetter x := by unfold T_impl_yletter isLetter; grind
theorem t_impl_ywordByte (x : Int) : T_impl_ywordByte x = isWord x := by unfold T_impl_ywordByte isWord; rw [t_impl_yletter, t_impl_ydigit]; grind
theorem p_spec_GoodName_l (s : List Int) : P_spec_GoodName_0_4 s = some (s.all isWord) := by
  induction s with
  | nil => rfl
  | cons e r ih =>
    simp only [P_spec_GoodName_0_4, ih, List.all_cons, isWord, t_spec_l1Letter, t_spec_l1Digit]
    grind
theorem p_spec_GoodName {s : List Int} (h : s.length ≤ maxLen) : P_spec_GoodName s = some (goodName s) := by
  rw [P_spec_GoodName, lenOk_pos h, p_spec_GoodName_l, goodName]
  simp only [t_spec_l1Digit, inB]
  grind
theorem p_impl_GoodName_l (s : List Int) : P_impl_GoodName_0_4 s = some (s.all isWord) := by
  induction s with
  | nil => rfl
  | cons e r ih =>
    simp only [P_impl_GoodName_0_4, ih, List.all_cons, t_impl_ywordByte]
    grind
theorem p_impl_GoodName {s : List Int} (h : s.length ≤ maxLen) : P_impl_GoodName s = some (goodName s) := by
  rw [P_impl_GoodName, lenOk_pos h, p_impl_GoodName_l, goodName]
  simp only [t_impl_ydigit, inB]
  cases s with
  | nil => rfl
  | cons x s => grind
theorem t_spec_l1CmpNum (a b : Int) : T_spec_l1CmpNum a b = cmpNum a b := by unfold T_spec_l1CmpNum cmpNum; rfl
theorem p_spec_l1CmpText_l (a b : List Int) (ha : bytesL a) (hb : bytesL b) : ∀ (r : List Int) (k : Nat), r = a.drop k → k ≤ a.length → k ≤ b.length → P_spec_l1CmpText_0_2 a b r k = some (cmpText r (b.drop k)) := by
  intro r
  induction r with
  | nil =>
    intro k hr hk hkb
    have h1 := drop_nil hr
    rw [P_spec_l1CmpText_0_2, t_spec_l1CmpNum, cmpText_nil, List.length_drop]
    unfold cmpNum
    grind
  | cons e r ih =>
    intro k hr hk hkb
    obtain ⟨h1, _, h2⟩ := drop_cons (d := 0) hr
    have h3 : (e :: r).length = a.length - k := by rw [hr, List.length_drop]
    rw [P_spec_l1CmpText_0_2]
    by_cases h : k < b.length
    · have hg := List.getElem?_eq_getElem h
      have he := ha e (List.mem_of_mem_drop (hr ▸ List.mem_cons_self))
      have hbk := hb b[k] (List.getElem_mem h)
      rw [rd_nat hg, inB_nat2 h, decide_eq_true (by omega), List.drop_eq_getElem_cons h, wrapU (by omega), wrapU (by omega), t_spec_l1CmpNum, ih (k + 1) h2 (by omega) (by omega)]
      simp only [cmpText, cond_true]
      by_cases hc : e = b[k]
      · simp [hc]
      · simp [hc]
    · rw [decide_eq_false (by omega), List.drop_eq_nil_of_le (by omega), cmpText_nil2, h3]
      simp only [cond_false, t_spec_l1CmpNum, cmpNum]
      grind
theorem p_spec_l1CmpText {a b : List Int} (ha : wfD .str a) (hb : wfD .str b) : P_spec_l1CmpText a b = some (cmpStr a b) := by
  rw [P_spec_l1CmpText, lenOk_pos (wfS_len ha), p_spec_l1CmpText_l a b (wfS_bytes ha) (wfS_bytes hb) a 0 rfl (by omega) (by omega), List.drop_zero, cmpText_str]
theorem p_impl_yallNames_l : ∀ (l : List (List Int)) (k : Nat), (∀ s ∈ l, s.length ≤ maxLen) → P_impl_yallNames_0_2_1002_1001 l k = some (l.all goodName)
  | [], k, _ => rfl
  | s :: l, k, h => by
    rw [P_impl_yallNames_0_2_1002_1001, p_impl_GoodName (h s (by simp)), p_impl_yallNames_l l (k + 1) (fun x hx => h x (by simp [hx])), List.all_cons]
    simp only [Option.bind_some, nat0]
    grind
theorem p_impl_yallNames {l : List (List Int)} (h : wfD (.list .str) l) : P_impl_yallNames l = some (l.all goodName) := by
  rw [P_impl_yallNames, lenOk_pos h.1, p_impl_yallNames_l l 0 fun s hs => wfS_len (h.2 s hs)]
theorem p_impl_yrising_l (xs : List (List Int)) (hl : xs.length ≤ maxLen) : ∀ (r : List (List Int)) (k : Nat), r = xs.drop k → P_impl_yrising_0_2 xs r k = some (risingFrom lessI (before xs k) r)
  | [], k, _ => by rw [risingFrom_nil]; rfl
  | e :: r, k, h => by
    obtain ⟨h1, h2, h3, h4, h5⟩ := step_prev (d := Ty.dflt .str) hl h
    rw [P_impl_yrising_0_2, p_impl_yrising_l xs hl r (k + 1) h1, h2, risingFrom_cons]
    rcases h5 with rfl | ⟨h5, h6, h7, _⟩
    · simp [before]
    · rw [h6, h7]; grind
theorem p_impl_yrising {l : List (List Int)} (h : l.length ≤ maxLen) : P_impl_yrising l = some (risingBy lessI l) := by
  rw [P_impl_yrising, lenOk_pos h, p_impl_yrising_l l h l 0 rfl]; rfl
def roleOf : List DRole → List Int → DRole × Bool
  | [], _ => (([], [], []), false)
  | e :: r, n => bif decide (e.1 = n) then (e, true) else roleOf r n
theorem p_spec_l15Role_l (n : List Int) : ∀ l, P_spec_l15Role_0_2 n l = some (roleOf l n)
  | [] => rfl
  | e :: r => by rw [P_spec_l15Role_0_2, p_spec_l15Role_l n r, roleOf]; cases decide (e.1 = n) <;> rfl
theorem p_spec_l15Role {s : DRoleSet} (h : s.1.length ≤ maxLen) (n : List Int) : P_spec_l15Role s n = some (roleOf s.1 n) := by rw [P_spec_l15Role, lenOk_pos h, p_spec_l15Role_l]
theorem roleOf_yes : ∀ {l : List DRole} {n : List Int}, (roleOf l n).2 = true → (roleOf l n).1 ∈ l ∧ (roleOf l n).1.1 = n
  | [], n, h => by cases h
  | e :: r, n, h => by
    rw [roleOf] at h ⊢
    by_cases he : e.1 = n
    · simp [he]
    · simp only [he, decide_false, cond_false] at h ⊢
      obtain ⟨h1, h2⟩ := roleOf_yes h
      exact ⟨by simp [h1], h2⟩
theorem roleOf_no : ∀ {l : List DRole} {n : List Int}, (roleOf l n).2 = false → (roleOf l n).1.2.1 = []
  | [], n, h => rfl
  | e :: r, n, h => by
    rw [roleOf] at h ⊢
    by_cases he : e.1 = n
    · simp [he] at h
    · simp only [he, decide_false, cond_false] at h ⊢
      exact roleOf_no h
def underOf (l : List DRole) (n : List Int) : List (List Int) := (roleOf l n).1.2.1
def isRole (l : List DRole) (n : List Int) : Bool := (roleOf l n).2
def allUnder (l : List DRole) : List (List Int) := l.flatMap fun r => r.2.1
theorem underOf_sub {l : List DRole} {n : List Int} : (∀ a ∈ underOf l n, a ∈ allUnder l) ∧ (underOf l n).length ≤ (allUnder l).length := by
  unfold underOf
  cases h : (roleOf l n).2 with
  | false => rw [roleOf_no h]; exact ⟨fun a ha => (by cases ha), Nat.zero_le _⟩
  | true =>
    have h1 := (roleOf_yes h).1
    refine ⟨fun a ha => List.mem_flatMap.2 ⟨_, h1, ha⟩, ?_⟩
    generalize (roleOf l n).1 = r at h1
    unfold allUnder
    clear h
    induction l with
    | nil => cases h1
    | cons e l ih =>
      rw [List.flatMap_cons, List.length_append]
      rcases List.mem_cons.1 h1 with rfl | h1
      · omega
      · have := ih h1; omega
theorem roleOf_under {l : List DRole} {n : List Int} : ∀ (hw : ∀ r ∈ l, wfD TyRole r), (roleOf l n).1.2.1.length ≤ maxLen := by
  intro hw
  cases h : (roleOf l n).2 with
  | false => rw [roleOf_no h]; unfold maxLen; simp
  | true => exact (hw _ (roleOf_yes h).1).2.1.1
/-- What is under some roles, they themselves too. -/
inductive Reach (l : List DRole) (N : List (List Int)) : List Int → Prop
  | base {x : List Int} : x ∈ N → Reach l N x
  | step {x y : List Int} : Reach l N x → y ∈ underOf l x → Reach l N y
theorem p_spec_l3Has_l (a : List Int) (xs : List (List Int)) : P_spec_l3Has_0_2 a xs = some (decide (a ∈ xs)) := by
  induction xs with
  | nil => simp [P_spec_l3Has_0_2]
  | cons e r ih =>
    rw [P_spec_l3Has_0_2, ih]
    by_cases h : e = a
    · subst h; simp
    · have h' : ¬ a = e := fun q => h q.symm
      simp [h, h']
theorem p_spec_l3Has {xs : List (List Int)} (h : xs.length ≤ maxLen) (a : List Int) : P_spec_l3Has xs a = some (decide (a ∈ xs)) := by
  rw [P_spec_l3Has, lenOk_pos h, p_spec_l3Has_l]
theorem p_spec_l3Rising_l (xs : List (List Int)) (hw : wfD (.list .str) xs) : ∀ (r : List (List Int)) (k : Nat), r = xs.drop k → 0 < k → P_spec_l3Rising_0_2 xs r k = some (risingFrom lessI (before xs k) r)
  | [], k, _, _ => by rw [risingFrom_nil]; rfl
  | e :: r, k, h, h0 => by
    obtain ⟨h1, h2, h3, h4, h5⟩ := step_prev (d := Ty.dflt .str) hw.1 h
    rcases h5 with rfl | ⟨_, h6, h7, h8⟩
    · cases h0
    rw [P_spec_l3Rising_0_2, p_spec_l3Rising_l xs hw r (k + 1) h1 (by omega), h2, risingFrom_cons, h6, h7, p_spec_l1CmpText (hw.2 _ h8) (hw.2 _ h4)]
    simp only [Option.bind_some, cmpStr_ge]
    grind
theorem p_spec_l3Rising {l : List (List Int)} (h : wfD (.list .str) l) : P_spec_l3Rising l = some (risingBy lessI l) := by
  rw [P_spec_l3Rising, lenOk_pos h.1, p_spec_l3Rising_l l h _ 1 rfl (by omega)]
  cases l with
  | nil => rfl
  | cons e l => rfl
def rolesOk (s : List DRole) (l : List (List Int)) : Bool := l.all (isRole s) && risingBy lessI l
theorem p_spec_l15All_l {s : DRoleSet} (hs : s.1.length ≤ maxLen) (xs : List (List Int)) (hx : wfD (.list .str) xs) : ∀ l, P_spec_l15All_0_2 xs s l = some (l.all (isRole s.1) && risingBy lessI xs)
  | [] => by rw [P_spec_l15All_0_2, p_spec_l3Rising hx]; rfl
  | e :: r => by
    rw [P_spec_l15All_0_2, p_spec_l15Role hs, p_spec_l15All_l hs xs hx r, List.all_cons]
    simp only [Option.bind_some, isRole]
    cases (roleOf s.1 e).2 <;> simp
theorem p_spec_l15All {s : DRoleSet} (hs : s.1.length ≤ maxLen) {l : List (List Int)} (hl : wfD (.list .str) l) : P_spec_l15All s l = some (rolesOk s.1 l) := by
  rw [P_spec_l15All, lenOk_pos hl.1, p_spec_l15All_l hs l hl]; rfl
theorem set_shift {α : Type} (x : α) : ∀ (d p : Nat) (ys : List α), p + d + 1 < ys.length + 1 → ∀ z, ys[p + d]? = some z →
    ((ys.set (p + d + 1) z).take p ++ x :: (((ys.set (p + d + 1) z).drop p).take d ++ (ys.set (p + d + 1) z).drop (p + d + 1))) = ys.take p ++ x :: ((ys.drop p).take (d + 1) ++ ys.drop (p + d + 2)) ∨ ¬ p + d + 1 < ys.length := by
  intro d p ys _ z hz
  by_cases hlt : p + d + 1 < ys.length
  · left
    congr 1
    · rw [List.take_set_of_le (by omega)]
    · congr 1
      have e1 : ((ys.set (p + d + 1) z).drop p).take d = (ys.drop p).take d := by
        rw [List.drop_set, if_neg (by omega), List.take_set_of_le (by omega)]
      have e2 : (ys.set (p + d + 1) z).drop (p + d + 1) = z :: ys.drop (p + d + 2) := by
        rw [List.drop_set, if_neg (by omega), Nat.sub_self, List.drop_eq_getElem_cons hlt, List.set_cons_zero]
      have e3 : (ys.drop p).take (d + 1) = (ys.drop p).take d ++ [z] := by
        rw [List.take_add_one, List.getElem?_drop, hz]; rfl
      rw [e1, e2, e3, List.append_assoc]; rfl
  · exact .inr hlt
theorem p_spec_l5Sorted_sh {x : List Int} {p : Nat} : ∀ (d : Nat) (ys : List (List Int)), p + d < ys.length → ys.length ≤ maxLen → ∀ (K : List (List Int) → Option (List (List Int))) m, d + 1 ≤ m →
    P_spec_l5Sorted_0_11 K x p m ys ((p + d : Nat) : Int) = K (ys.take p ++ x :: ((ys.drop p).take d ++ ys.drop (p + d + 1))) := by
  intro d
  induction d with
  | zero =>
    intro ys hj hl K m hm
    obtain ⟨m, rfl⟩ : ∃ m', m = m' + 1 := ⟨m - 1, by omega⟩
    rw [P_spec_l5Sorted_0_11]
    have d1 : decide ((p : Int) < ((p + 0 : Nat) : Int)) = false := decide_eq_false (by omega)
    have d3 : inB (p : Int) ys.length = true := inB_nat2 (by omega)
    simp only [d1, d3, cond_true, cond_false, Bool.and_self, Int.toNat_natCast]
    congr 1
    rw [List.take_zero, List.nil_append, Nat.add_zero, List.set_eq_take_append_cons_drop, if_pos (by omega)]
  | succ d ih =>
    intro ys hj hl K m hm
    obtain ⟨m, rfl⟩ : ∃ m', m = m' + 1 := ⟨m - 1, by omega⟩
    have hw : IntKind.wrap .i64 (((p + (d + 1) : Nat) : Int) - 1) = ((p + d : Nat) : Int) := wrap_pred hl (show p + d < ys.length by omega)
    have hg := List.getElem?_eq_getElem (show p + d < ys.length by omega)
    have hrd : rd ys ((p + d : Nat) : Int) (Ty.dflt .str) = ys[p + d] := rd_nat hg
    rw [P_spec_l5Sorted_0_11]
    have d1 : decide ((p : Int) < ((p + (d + 1) : Nat) : Int)) = true := decide_eq_true (by omega)
    have d2 : inB ((p + d : Nat) : Int) ys.length = true := inB_nat2 (by omega)
    have d3 : inB ((p + (d + 1) : Nat) : Int) ys.length = true := inB_nat2 hj
    simp only [d1, hw, d2, d3, cond_true, Bool.and_self, Int.toNat_natCast, hrd]
    rw [ih _ (by rw [List.length_set]; omega) (by rw [List.length_set]; exact hl) K m (by omega)]
    congr 1
    rcases set_shift x d p ys (by omega) _ hg with h | h
    · exact h
    · omega
theorem p_spec_l5Sorted_in {x1 : List (List Int)} {x : List Int} {k : Nat} (hk : k ≤ x1.length) (hl : x1.length ≤ 10000000) (hs : x1.Pairwise lessP) (hb : ∀ a ∈ x1.drop k, lessP x a) (ha : ∀ j, k = j + 1 → ∀ a, x1[j]? = some a → lessI x a = false) :
    ∃ zs : List (List Int), zs.Pairwise lessP ∧ zs.length ≤ x1.length + 1 ∧ (∀ a, a ∈ zs ↔ a = x ∨ a ∈ x1) ∧ ∀ (K : List (List Int) → Option (List (List Int))) m, x1.length + 2 ≤ m → P_spec_l5Sorted_1_8 K m x1 x k = K zs := by
  have hmax : (x1 ++ [x]).length ≤ maxLen := by rw [List.length_append]; simp; unfold maxLen; omega
  have hroom : (decide (((x1.length : Int) + (([x] : List (List Int)).length : Int)) * 16 ≤ room) && decide ((x1.length : Int) + (([x] : List (List Int)).length : Int) ≤ room)) = true := by
    rw [room_eq]; simp; omega
  have hpos : IntKind.wrap .i64 (((x1 ++ ([x] : List (List Int))).length : Int) - 1) = ((k + (x1.length - k) : Nat) : Int) := by
    rw [show k + (x1.length - k) = x1.length by omega]
    rw [List.length_append]
    exact wrap_pred (by rw [List.length_append] at hmax; exact hmax) (show x1.length < x1.length + 1 by omega)
  have hsh := fun K m hm => p_spec_l5Sorted_sh (x := x) (p := k) (x1.length - k) (x1 ++ [x]) (by rw [List.length_append]; simp; omega) hmax K m hm
  have hz : (x1 ++ [x]).take k ++ x :: (((x1 ++ [x]).drop k).take (x1.length - k) ++ (x1 ++ [x]).drop (k + (x1.length - k) + 1)) = x1.take k ++ x :: x1.drop k := by
    have e1 : ((x1 ++ [x]).drop k).take (x1.length - k) = x1.drop k := by
      rw [List.drop_append_of_le_length hk, List.take_append_of_le_length (by rw [List.length_drop]; omega)]
      exact List.take_of_length_le (by rw [List.length_drop]; omega)
    have e2 : (x1 ++ [x]).drop (k + (x1.length - k) + 1) = [] := List.drop_of_length_le (by rw [List.length_append]; simp; omega)
    rw [e1, e2, List.append_nil, List.take_append_of_le_length hk]
  have mem : ∀ a, a ∈ x1.take k ++ x :: x1.drop k ↔ a = x ∨ a ∈ x1 := by
    intro a
    have := List.take_append_drop k x1
    constructor
    · intro h
      rcases List.mem_append.1 h with h | h
      · exact .inr (List.mem_of_mem_take h)
      · rcases List.mem_cons.1 h with h | h
        · exact .inl h
        · exact .inr (List.mem_of_mem_drop h)
    · rintro (h | h)
      · simp [h]
      · rw [← this] at h
        rcases List.mem_append.1 h with h | h
        · simp [h]
        · simp [h]
  have len : (x1.take k ++ x :: x1.drop k).length ≤ x1.length + 1 := by
    rw [List.length_append, List.length_cons, List.length_take, List.length_drop]; omega
  have srt : (∀ a ∈ x1.take k, lessP a x) → (x1.take k ++ x :: x1.drop k).Pairwise lessP := by
    intro h
    have h0 := hs
    rw [← List.take_append_drop k x1, List.pairwise_append] at h0
    rw [List.pairwise_append]
    refine ⟨h0.1, List.pairwise_cons.2 ⟨hb, h0.2.1⟩, fun a h1 b h2 => ?_⟩
    rcases List.mem_cons.1 h2 with rfl | h2
    · exact h a h1
    · exact h0.2.2 a h1 b h2
  by_cases h0 : k = 0
  · subst h0
    refine ⟨_, srt (fun a h => by simp at h), len, mem, fun K m hm => ?_⟩
    rw [P_spec_l5Sorted_1_8]
    rw [← hz]
    have hsh := hsh K m (by omega)
    rw [← hpos] at hsh
    simp only [hroom, cond_true]
    exact hsh
  · obtain ⟨k', rfl⟩ : ∃ k', k = k' + 1 := ⟨k - 1, by omega⟩
    have hw : IntKind.wrap .i64 (((k' + 1 : Nat) : Int) - 1) = (k' : Int) := wrap_pred (by unfold maxLen; omega) hk
    have hin : inB (k' : Int) x1.length = true := inB_nat2 (by omega)
    have hg := List.getElem?_eq_getElem (show k' < x1.length by omega)
    have hrd : rd x1 (k' : Int) (Ty.dflt .str) = x1[k'] := rd_nat hg
    have d1 : decide ((0 : Int) < ((k' + 1 : Nat) : Int)) = true := decide_eq_true (by omega)
    by_cases he : x1[k'] = x
    · refine ⟨x1, hs, by omega, fun a => ⟨.inr, ?_⟩, fun K m hm => ?_⟩
      · rintro (h | h)
        · rw [h, ← he]; exact List.getElem_mem _
        · exact h
      · rw [P_spec_l5Sorted_1_8]
        simp only [d1, hw, hin, hrd, he, decide_true, cond_true]
    · have hlt : lessP x1[k'] x := by
        have := ha k' rfl _ hg
        exact lessI_total x x1[k'] (fun q => he q.symm) this
      refine ⟨_, srt (fun a h => ?_), len, mem, fun K m hm => ?_⟩
      · obtain ⟨i, hi⟩ := List.getElem?_of_mem h
        rw [List.getElem?_take] at hi
        split at hi
        case isFalse => cases hi
        rename_i hik
        by_cases hik2 : i = k'
        · subst hik2; rw [hg] at hi; cases hi; exact hlt
        · have hil : i < x1.length := by omega
          rw [List.getElem?_eq_getElem hil] at hi
          cases hi
          exact lessI_trans _ _ _ (List.pairwise_iff_getElem.1 hs i k' hil (by omega) (by omega)) hlt
      · rw [P_spec_l5Sorted_1_8]
        rw [← hz]
        have hsh := hsh K m (by omega)
        rw [← hpos] at hsh
        simp only [d1, hw, hin, hrd, he, decide_false, cond_true, cond_false, hroom]
        exact hsh
theorem p_spec_l5Sorted_pos {x1 : List (List Int)} {x : List Int} (hl : x1.length ≤ 10000000) (hx : wfD .str x) (h1 : ∀ a ∈ x1, wfD .str a) (hs : x1.Pairwise lessP) : ∀ (k : Nat), k ≤ x1.length → (∀ a ∈ x1.drop k, lessP x a) →
    ∃ zs : List (List Int), zs.Pairwise lessP ∧ zs.length ≤ x1.length + 1 ∧ (∀ a, a ∈ zs ↔ a = x ∨ a ∈ x1) ∧ ∀ (K : List (List Int) → Option (List (List Int))) m, x1.length + k + 4 ≤ m → P_spec_l5Sorted_0_6 K x1 x m k = K zs := by
  intro k
  induction k with
  | zero =>
    intro hk hb
    obtain ⟨zs, z0, z1, z2, z3⟩ := p_spec_l5Sorted_in hk hl hs hb (fun j hj => by omega)
    refine ⟨zs, z0, z1, z2, fun K m hm => ?_⟩
    obtain ⟨m, rfl⟩ : ∃ m', m = m' + 1 := ⟨m - 1, by omega⟩
    rw [P_spec_l5Sorted_0_6]
    have d1 : decide ((0 : Int) < ((0 : Nat) : Int)) = false := decide_eq_false (by omega)
    simp only [d1, cond_false]
    exact z3 K m (by omega)
  | succ k ih =>
    intro hk hb
    have hw : IntKind.wrap .i64 (((k + 1 : Nat) : Int) - 1) = (k : Int) := wrap_pred (by unfold maxLen; omega) hk
    have hin : inB (k : Int) x1.length = true := inB_nat2 (by omega)
    have hg := List.getElem?_eq_getElem (show k < x1.length by omega)
    have hrd : rd x1 (k : Int) (Ty.dflt .str) = x1[k] := rd_nat hg
    have hcm := p_spec_l1CmpText (h1 x1[k] (List.getElem_mem _)) hx
    have d1 : decide ((0 : Int) < ((k + 1 : Nat) : Int)) = true := decide_eq_true (by omega)
    have hcs : decide (0 < cmpStr x1[k] x) = lessI x x1[k] := by
      unfold cmpStr
      have := lessI_asymm x1[k] x
      cases q1 : lessI x1[k] x with
      | true => rw [this q1]; simp
      | false => cases lessI x x1[k] <;> simp
    by_cases hgt : lessI x x1[k] = true
    · obtain ⟨zs, z0, z1, z2, z3⟩ := ih (by omega) (fun a ha => by
        rw [List.drop_eq_getElem_cons (show k < x1.length by omega)] at ha
        rcases List.mem_cons.1 ha with rfl | ha
        · exact hgt
        · exact hb a ha)
      refine ⟨zs, z0, z1, z2, fun K m hm => ?_⟩
      obtain ⟨m, rfl⟩ : ∃ m', m = m' + 1 := ⟨m - 1, by omega⟩
      rw [P_spec_l5Sorted_0_6]
      simp only [d1, hw, hin, hrd, hcm, Option.bind_some, hcs, hgt, cond_true]
      exact z3 K m (by omega)
    · have hgt : lessI x x1[k] = false := by cases q : lessI x x1[k] with
        | true => exact absurd q hgt
        | false => rfl
      obtain ⟨zs, z0, z1, z2, z3⟩ := p_spec_l5Sorted_in hk hl hs hb (fun j hj a ha => by
        have : j = k := by omega
        subst this; rw [hg] at ha; cases ha; exact hgt)
      refine ⟨zs, z0, z1, z2, fun K m hm => ?_⟩
      obtain ⟨m, rfl⟩ : ∃ m', m = m' + 1 := ⟨m - 1, by omega⟩
      rw [P_spec_l5Sorted_0_6]
      simp only [d1, hw, hin, hrd, hcm, Option.bind_some, hcs, hgt, cond_true, cond_false]
      exact z3 K m (by omega)
theorem p_spec_l5Sorted_l : ∀ (rest x1 : List (List Int)), x1.length + rest.length ≤ 10000000 → (∀ a ∈ rest, wfD .str a) → (∀ a ∈ x1, wfD .str a) → x1.Pairwise lessP →
    ∃ zs : List (List Int), zs.Pairwise lessP ∧ (∀ a, a ∈ zs ↔ a ∈ x1 ∨ a ∈ rest) ∧ zs.length ≤ x1.length + rest.length ∧ ∀ m, 2 * (x1.length + rest.length) + 8 ≤ m → P_spec_l5Sorted_0_3 m rest x1 = some zs := by
  intro rest
  induction rest with
  | nil => intro x1 _ _ _ hs; exact ⟨x1, hs, fun a => by simp, by simp, fun m _ => rfl⟩
  | cons e rest ih =>
    intro x1 hl hr h1 hs
    rw [List.length_cons] at hl
    obtain ⟨zs, z0, z1, z2, z3⟩ := p_spec_l5Sorted_pos (x1 := x1) (x := e) (by omega) (hr e (by simp)) h1 hs x1.length (Nat.le_refl _) (fun a ha => by rw [List.drop_length] at ha; cases ha)
    obtain ⟨ys, y0, y1, y2, y3⟩ := ih zs (by omega) (fun a ha => hr a (by simp [ha])) (fun a ha => by
      rcases (z2 a).1 ha with rfl | h
      · exact hr a (by simp)
      · exact h1 a h) z0
    refine ⟨ys, y0, fun a => ?_, by rw [List.length_cons]; omega, fun m hm => ?_⟩
    · rw [y1, z2, List.mem_cons]
      constructor
      · rintro ((h | h) | h)
        · exact .inr (.inl h)
        · exact .inl h
        · exact .inr (.inr h)
      · rintro (h | h | h)
        · exact .inl (.inr h)
        · exact .inl (.inl h)
        · exact .inr h
    · rw [List.length_cons] at hm
      rw [P_spec_l5Sorted_0_3, z3 _ m (by omega)]
      exact y3 m (by omega)
theorem p_spec_l5Sorted {xs : List (List Int)} (hl : xs.length ≤ 10000000) (hw : ∀ a ∈ xs, wfD .str a) : ∃ zs : List (List Int), zs.Pairwise lessP ∧ (∀ a, a ∈ zs ↔ a ∈ xs) ∧ zs.length ≤ xs.length ∧ E_spec_l5Sorted xs = some zs := by
  obtain ⟨zs, z0, z1, z2, z3⟩ := p_spec_l5Sorted_l xs [] (by simpa using hl) hw (fun a ha => by simp at ha) (by simp)
  refine ⟨zs, z0, fun a => by rw [z1]; simp, by simpa using z2, evOpt_of ⟨2 * xs.length + 8, fun m hm => ?_⟩⟩
  show P_spec_l5Sorted m xs = some zs
  rw [P_spec_l5Sorted, lenOk_pos (by unfold maxLen; omega)]
  exact z3 m (by simpa using hm)
theorem p_spec_l15Under_in {K0 : List (List Int) → Int → Option (List (List Int))} {x2 : Int} : ∀ (l acc : List (List Int)), acc.length + l.length ≤ 10000000 → P_spec_l15Under_0_8 K0 x2 l acc = K0 (addN acc l) (IntKind.wrap .i64 (x2 + 1))
  | [], acc, _ => rfl
  | e :: r, acc, hl => by
    rw [List.length_cons] at hl
    rw [P_spec_l15Under_0_8, p_spec_l3Has (by unfold maxLen; omega), Option.bind_some, addN]
    by_cases h : e ∈ acc
    · rw [if_pos h]
      simp only [h, decide_true, Bool.not_true, cond_false]
      exact p_spec_l15Under_in r acc (by omega)
    · have hroom : (decide (((acc.length : Int) + (([e] : List (List Int)).length : Int)) * 16 ≤ room) && decide ((acc.length : Int) + (([e] : List (List Int)).length : Int) ≤ room)) = true := by
        rw [room_eq]; simp; omega
      rw [if_neg h]
      simp only [h, decide_false, Bool.not_false, cond_true, hroom]
      exact p_spec_l15Under_in r _ (by rw [List.length_append]; simp; omega)
theorem under_walk {s : DRoleSet} (hs : s.1.length ≤ maxLen) {N : List (List Int)} (hN : N.length + (allUnder s.1).length ≤ 4000000) : ∀ (d k : Nat) (ext : List (List Int)), N.length + (allUnder s.1).length ≤ k + d → k ≤ (N ++ ext).length → ext.Nodup → (∀ a ∈ ext, a ∈ allUnder s.1 ∧ Reach s.1 N a) →
    (∀ i, i < k → ∀ a, (N ++ ext)[i]? = some a → ∀ y ∈ underOf s.1 a, y ∈ N ++ ext) →
    ∃ L : List (List Int), (∀ a, a ∈ L ↔ Reach s.1 N a) ∧ L.length ≤ N.length + (allUnder s.1).length ∧ (∀ a ∈ L, a ∈ N ∨ a ∈ allUnder s.1) ∧ ∀ m, d + 1 ≤ m → P_spec_l15Under_0_4 s m (N ++ ext) k = Option.bind (E_spec_l5Sorted L) some := by
  have last : ∀ (d k : Nat) (ext : List (List Int)), k = (N ++ ext).length → ext.Nodup → (∀ a ∈ ext, a ∈ allUnder s.1 ∧ Reach s.1 N a) →
    (∀ i, i < k → ∀ a, (N ++ ext)[i]? = some a → ∀ y ∈ underOf s.1 a, y ∈ N ++ ext) →
    ∃ L : List (List Int), (∀ a, a ∈ L ↔ Reach s.1 N a) ∧ L.length ≤ N.length + (allUnder s.1).length ∧ (∀ a ∈ L, a ∈ N ∨ a ∈ allUnder s.1) ∧ ∀ m, d + 1 ≤ m → P_spec_l15Under_0_4 s m (N ++ ext) k = Option.bind (E_spec_l5Sorted L) some := by
    intro d k ext hk hn he hc
    have hlen := nodup_len hn (fun a ha => (he a ha).1)
    refine ⟨N ++ ext, fun a => ⟨fun ha => ?_, fun ha => ?_⟩, by rw [List.length_append]; omega, fun a ha => ?_, fun m hm => ?_⟩
    · rcases List.mem_append.1 ha with ha | ha
      · exact .base ha
      · exact (he a ha).2
    · induction ha with
      | base h => exact List.mem_append_left _ h
      | step _ hy ih =>
        obtain ⟨i, hi⟩ := List.getElem?_of_mem ih
        have hlt : i < (N ++ ext).length := (List.getElem?_eq_some_iff.1 hi).1
        exact hc i (by omega) _ hi _ hy
    · rcases List.mem_append.1 ha with ha | ha
      · exact .inl ha
      · exact .inr (he a ha).1
    · obtain ⟨m, rfl⟩ : ∃ m', m = m' + 1 := ⟨m - 1, by omega⟩
      rw [P_spec_l15Under_0_4]
      have b3 : decide ((k : Int) < ((N ++ ext).length : Int)) = false := decide_eq_false (by omega)
      simp only [b3, cond_false]
  intro d
  induction d with
  | zero =>
    intro k ext hd hk hn he hc
    have hlen := nodup_len hn (fun a ha => (he a ha).1)
    rw [List.length_append] at hk
    exact last 0 k ext (by rw [List.length_append]; omega) hn he hc
  | succ d ih =>
    intro k ext hd hk hn he hc
    have hlen := nodup_len hn (fun a ha => (he a ha).1)
    by_cases hkk : k = (N ++ ext).length
    · exact last (d + 1) k ext hkk hn he hc
    have hlt : k < (N ++ ext).length := by omega
    have hg := List.getElem?_eq_getElem hlt
    have hxr : Reach s.1 N (N ++ ext)[k] := by
      rcases List.mem_append.1 (List.getElem_mem hlt) with h | h
      · exact .base h
      · exact (he _ h).2
    obtain ⟨ex2, e1, e2, e3, e4⟩ := addN_ext (underOf s.1 (N ++ ext)[k]) (N ++ ext)
    have hsub := underOf_sub (l := s.1) (n := (N ++ ext)[k])
    rw [List.append_assoc] at e1
    obtain ⟨L, l1, l2, l3, l4⟩ := ih (k + 1) (ext ++ ex2) (by omega) (by rw [← List.append_assoc, List.length_append]; omega)
      (List.nodup_append.2 ⟨hn, e2, fun a ha b hb e => (e3 b hb).2 (by rw [← e]; exact List.mem_append_right _ ha)⟩)
      (fun a ha => by
        rcases List.mem_append.1 ha with ha | ha
        · exact he a ha
        · exact ⟨hsub.1 a (e3 a ha).1, .step hxr (e3 a ha).1⟩)
      (fun i hi a ha y hy => by
        rw [← List.append_assoc] at ha ⊢
        rw [List.getElem?_append_left (by omega)] at ha
        by_cases hik : i = k
        · subst hik; rw [hg] at ha; cases ha
          exact e4 y hy
        · exact List.mem_append_left _ (hc i (by omega) a ha y hy))
    refine ⟨L, l1, l2, l3, fun m hm => ?_⟩
    obtain ⟨m, rfl⟩ : ∃ m', m = m' + 1 := ⟨m - 1, by omega⟩
    have hrd : rd (N ++ ext) (k : Int) (Ty.dflt .str) = (N ++ ext)[k] := rd_nat hg
    have b3 : decide ((k : Int) < ((N ++ ext).length : Int)) = true := decide_eq_true (by omega)
    have hl1 : (N ++ ext).length + (underOf s.1 (N ++ ext)[k]).length ≤ 10000000 := by rw [List.length_append]; have := hsub.2; omega
    rw [P_spec_l15Under_0_4]
    simp only [b3, inB_nat2 hlt, cond_true, hrd, p_spec_l15Role hs, Option.bind_some]
    have hu : (roleOf s.1 (N ++ ext)[k]).1.2.1 = underOf s.1 (N ++ ext)[k] := rfl
    rw [hu, lenOk_pos (by unfold maxLen; omega), p_spec_l15Under_in _ _ hl1, e1, wrap_succ (len := maxLen) (Nat.le_refl _) (by rw [List.length_append] at hlt; unfold maxLen; omega)]
    exact l4 m (by omega)
theorem p_spec_l15Under {s : DRoleSet} (hw : wfD (.list TyRole) s.1) {N : List (List Int)} (hn : wfD (.list .str) N) (hN : N.length + (allUnder s.1).length ≤ 4000000) :
    ∃ L : List (List Int), L.Pairwise lessP ∧ (∀ a, a ∈ L ↔ Reach s.1 N a) ∧ L.length ≤ 4000000 ∧ (∀ a ∈ L, wfD .str a) ∧ E_spec_l15Under s N = some L := by
  obtain ⟨L, l1, l2, l3, l4⟩ := under_walk hw.1 hN (N.length + (allUnder s.1).length) 0 [] (by omega) (by simp) (by simp) (by simp) (fun i hi => by omega)
  have hwL : ∀ a ∈ L, wfD .str a := by
    intro a ha
    rcases l3 a ha with h | h
    · exact hn.2 a h
    · obtain ⟨r, hr, h⟩ := List.mem_flatMap.1 h
      have hr : wfD .str r.1 ∧ wfD (.list .str) r.2.1 ∧ _ := hw.2 r hr
      exact hr.2.1.2 a h
  obtain ⟨zs, z0, z1, z2, z3⟩ := p_spec_l5Sorted (xs := L) (by omega) hwL
  refine ⟨zs, z0, fun a => by rw [z1, l1], by omega, fun a ha => hwL a ((z1 a).1 ha), evOpt_of ⟨N.length + (allUnder s.1).length + 1, fun m hm => ?_⟩⟩
  show P_spec_l15Under m s N = some zs
  have hroom : (decide ((N.length : Int) * 16 ≤ room) && decide ((N.length : Int) ≤ room)) = true := by
    rw [room_eq]; simp; omega
  have := l4 m (by omega)
  rw [List.append_nil] at this
  rw [P_spec_l15Under, hroom]
  simp only [cond_true]
  rw [show ((0 : Nat) : Int) = 0 from rfl] at this
  rw [this, z3]; rfl
theorem p_Clone_str {xs : List (List Int)} (h : xs.length ≤ 10000000) : P_slices_Clone_string_string xs = some xs := by
  have hroom : (decide (((([] : List (List Int)).length : Int) + (xs.length : Int)) * 16 ≤ room) && decide ((([] : List (List Int)).length : Int) + (xs.length : Int) ≤ room)) = true := by
    rw [room_eq]; simp; omega
  rw [P_slices_Clone_string_string, hroom]
  simp only [cond_true, List.nil_append]
  cases xs with
  | nil => exact both_self _
  | cons x xs => rfl
theorem p_impl_yrole_l (n : List Int) : ∀ l, P_impl_RoleSet_yrole_0_2_1003 n l = some (roleOf l n)
  | [] => rfl
  | e :: r => by rw [P_impl_RoleSet_yrole_0_2_1003, p_impl_yrole_l n r, roleOf]; cases decide (e.1 = n) <;> rfl
theorem p_impl_yrole {s : DRoleSet} (h : s.1.length ≤ maxLen) (n : List Int) : P_impl_RoleSet_yrole s n = some (roleOf s.1 n) := by rw [P_impl_RoleSet_yrole, lenOk_pos h, p_impl_yrole_l]
def wgt (V : List (List Int)) : List DRole → Nat
  | [] => 0
  | r :: l => (if r.1 ∈ V then 0 else r.2.1.length) + wgt V l
theorem wgt_mono (V : List (List Int)) (x : List Int) : ∀ l, wgt (V ++ [x]) l ≤ wgt V l
  | [] => Nat.le_refl _
  | r :: l => by
    have := wgt_mono V x l
    rw [wgt, wgt]
    by_cases h : r.1 ∈ V
    · rw [if_pos h, if_pos (by simp [h])]; omega
    · rw [if_neg h]; split <;> omega
theorem wgt_add (V : List (List Int)) (x : List Int) (hx : x ∉ V) : ∀ l, (roleOf l x).2 = true → wgt (V ++ [x]) l + (underOf l x).length ≤ wgt V l
  | [], h => by cases h
  | r :: l, h => by
    rw [wgt, wgt]
    unfold underOf
    rw [roleOf] at h ⊢
    by_cases he : r.1 = x
    · have := wgt_mono V x l
      subst he
      rw [if_pos (by simp), if_neg hx]
      simp only [decide_true, cond_true]
      omega
    · simp only [he, decide_false, cond_false] at h ⊢
      have ih := wgt_add V x hx l h
      unfold underOf at ih
      by_cases h1 : r.1 ∈ V
      · rw [if_pos h1, if_pos (by simp [h1])]; omega
      · rw [if_neg h1, if_neg (by simp [h1, he])]; omega
theorem wgt_nil : ∀ l : List DRole, wgt [] l = (allUnder l).length
  | [] => rfl
  | r :: l => by rw [wgt, if_neg (by simp), wgt_nil l]; unfold allUnder; rw [List.flatMap_cons, List.length_append]
theorem cut_tail {α : Type} (x : α) (l : List α) : cut (x :: l) 1 ((x :: l).length : Int) = l := by
  unfold cut; rw [Int.toNat_natCast, List.take_length]; rfl
theorem juniors_walk {s : DRoleSet} (hs : s.1.length ≤ maxLen) {N : List (List Int)} : ∀ (d : Nat) (row V : List (List Int)), row.length + wgt V s.1 ≤ d → d ≤ 4000000 → V.Nodup → (∀ v ∈ V, Reach s.1 N v ∧ isRole s.1 v = true) → (∀ a ∈ row, Reach s.1 N a) →
    (∀ x, (x ∈ N ∨ ∃ v ∈ V, x ∈ underOf s.1 v) → isRole s.1 x = true → x ∈ V ∨ x ∈ row) →
    ∃ L : List (List Int), L.Nodup ∧ (∀ a, a ∈ L ↔ Reach s.1 N a ∧ isRole s.1 a = true) ∧ ∀ m, d + 1 ≤ m → P_impl_RoleSet_yjuniors_0_3 s m row (V.map fun a => (a, true)) = some (L.map fun a => (a, true)) := by
  have last : ∀ (d : Nat) (V : List (List Int)), V.Nodup → (∀ v ∈ V, Reach s.1 N v ∧ isRole s.1 v = true) → (∀ x, (x ∈ N ∨ ∃ v ∈ V, x ∈ underOf s.1 v) → isRole s.1 x = true → x ∈ V ∨ x ∈ ([] : List (List Int))) →
      ∃ L : List (List Int), L.Nodup ∧ (∀ a, a ∈ L ↔ Reach s.1 N a ∧ isRole s.1 a = true) ∧ ∀ m, d + 1 ≤ m → P_impl_RoleSet_yjuniors_0_3 s m [] (V.map fun a => (a, true)) = some (L.map fun a => (a, true)) := by
    intro d V hn hv hc
    refine ⟨V, hn, fun a => ⟨hv a, fun ⟨h1, h2⟩ => ?_⟩, fun m hm => ?_⟩
    · induction h1 with
      | base h =>
        rcases hc _ (.inl h) h2 with h | h
        · exact h
        · cases h
      | @step x y hx hy ih =>
        have hxr : isRole s.1 x = true := by
          unfold isRole
          cases q : (roleOf s.1 x).2 with
          | true => rfl
          | false => unfold underOf at hy; rw [roleOf_no q] at hy; cases hy
        rcases hc _ (.inr ⟨x, ih ⟨hx, hxr⟩ hxr, hy⟩) h2 with h | h
        · exact h
        · cases h
    · obtain ⟨m, rfl⟩ : ∃ m', m = m' + 1 := ⟨m - 1, by omega⟩
      rw [P_impl_RoleSet_yjuniors_0_3]; rfl
  intro d
  induction d with
  | zero =>
    intro row V hd _ hn hv hr hc
    have h0 : row = [] := List.eq_nil_of_length_eq_zero (by omega)
    subst h0
    exact last 0 V hn hv hc
  | succ d ih =>
    intro row V hd hmax hn hv hr hc
    cases row with
    | nil => exact last (d + 1) V hn hv hc
    | cons x rest =>
      rw [List.length_cons] at hd
      have b1 : decide ((0 : Int) < ((x :: rest).length : Int)) = true := decide_eq_true (by rw [List.length_cons]; omega)
      have b2 : inB 0 (x :: rest).length = true := inB_nat2 (k := 0) (by rw [List.length_cons]; omega)
      have b3 : (true && decide ((1 : Int) ≤ ((x :: rest).length : Int))) = true := by rw [Bool.true_and]; exact decide_eq_true (by rw [List.length_cons]; omega)
      have hrd : rd (x :: rest) (0 : Int) (Ty.dflt .str) = x := rfl
      have skip : (isRole s.1 x = true → x ∈ V) → ∃ L : List (List Int), L.Nodup ∧ (∀ a, a ∈ L ↔ Reach s.1 N a ∧ isRole s.1 a = true) ∧ ∀ m, d + 1 ≤ m → P_impl_RoleSet_yjuniors_0_3 s m rest (V.map fun a => (a, true)) = some (L.map fun a => (a, true)) := by
        intro hx
        refine ih rest V (by omega) (by omega) hn hv (fun a ha => hr a (by simp [ha])) fun y hy hyr => ?_
        rcases hc y hy hyr with h | h
        · exact .inl h
        · rcases List.mem_cons.1 h with rfl | h
          · exact .inl (hx hyr)
          · exact .inr h
      cases hro : (roleOf s.1 x).2 with
      | false =>
        obtain ⟨L, l1, l2, l3⟩ := skip (fun q => by unfold isRole at q; rw [hro] at q; cases q)
        refine ⟨L, l1, l2, fun m hm => ?_⟩
        obtain ⟨m, rfl⟩ : ∃ m', m = m' + 1 := ⟨m - 1, by omega⟩
        rw [P_impl_RoleSet_yjuniors_0_3]
        simp only [b1, b2, cond_true, hrd, p_impl_yrole hs, Option.bind_some, hro, Bool.not_false, b3, cut_tail]
        exact l3 m (by omega)
      | true =>
        obtain ⟨r1, r2⟩ := roleOf_yes hro
        by_cases hxv : x ∈ V
        · obtain ⟨L, l1, l2, l3⟩ := skip (fun _ => hxv)
          refine ⟨L, l1, l2, fun m hm => ?_⟩
          obtain ⟨m, rfl⟩ : ∃ m', m = m' + 1 := ⟨m - 1, by omega⟩
          rw [P_impl_RoleSet_yjuniors_0_3]
          have hget := (getM_tt .str x V).2 hxv
          simp only [b1, b2, cond_true, hrd, p_impl_yrole hs, Option.bind_some, hro, Bool.not_true, cond_false, r2, hget, b3, cut_tail]
          exact l3 m (by omega)
        · have hadd := wgt_add V x hxv s.1 hro
          have hxr : Reach s.1 N x := hr x (by simp)
          obtain ⟨L, l1, l2, l3⟩ := ih (rest ++ underOf s.1 x) (V ++ [x]) (by rw [List.length_append]; omega) (by omega)
            (List.nodup_append.2 ⟨hn, by simp, fun a ha b hb e => hxv (by rw [List.mem_singleton.1 hb] at e; rw [← e]; exact ha)⟩)
            (fun v hvm => by
              rcases List.mem_append.1 hvm with h | h
              · exact hv v h
              · rw [List.mem_singleton.1 h]; exact ⟨hxr, hro⟩)
            (fun a ha => by
              rcases List.mem_append.1 ha with h | h
              · exact hr a (by simp [h])
              · exact .step hxr h)
            (fun y hy hyr => by
              have old : (y ∈ N ∨ ∃ v ∈ V, y ∈ underOf s.1 v) → y ∈ V ++ [x] ∨ y ∈ rest ++ underOf s.1 x := by
                intro q
                rcases hc y q hyr with h | h
                · exact .inl (by simp [h])
                · rcases List.mem_cons.1 h with rfl | h
                  · exact .inl (by simp)
                  · exact .inr (by simp [h])
              rcases hy with h | ⟨v, hvm, h⟩
              · exact old (.inl h)
              · rcases List.mem_append.1 hvm with q | q
                · exact old (.inr ⟨v, q, h⟩)
                · rw [List.mem_singleton.1 q] at h
                  exact .inr (by simp [h]))
          refine ⟨L, l1, l2, fun m hm => ?_⟩
          obtain ⟨m, rfl⟩ : ∃ m', m = m' + 1 := ⟨m - 1, by omega⟩
          rw [P_impl_RoleSet_yjuniors_0_3]
          have hget : getM .str (V.map fun a => (a, true)) x false = false := by
            cases q : getM .str (V.map fun a => (a, true)) x false with
            | false => rfl
            | true => exact absurd ((getM_tt .str x V).1 q) hxv
          have hset := setM_tt .str x V hxv
          have hu : (roleOf s.1 x).1.2.1 = underOf s.1 x := rfl
          have hroom : (decide ((((x :: rest).length : Int) + ((underOf s.1 x).length : Int)) * 16 ≤ room) && decide (((x :: rest).length : Int) + ((underOf s.1 x).length : Int) ≤ room)) = true := by
            rw [room_eq, List.length_cons]; simp; omega
          have b4 : (true && decide ((1 : Int) ≤ ((x :: (rest ++ underOf s.1 x)).length : Int))) = true := by rw [Bool.true_and]; exact decide_eq_true (by rw [List.length_cons]; omega)
          simp only [b1, b2, cond_true, hrd, p_impl_yrole hs, Option.bind_some, hro, Bool.not_true, cond_false, r2, hget, hu, hroom, List.cons_append, b4, cut_tail, hset]
          exact l3 m (by omega)
theorem p_impl_yjuniors {s : DRoleSet} (hs : s.1.length ≤ maxLen) {N : List (List Int)} (hN : N.length + (allUnder s.1).length ≤ 4000000) :
    ∃ L : List (List Int), L.Nodup ∧ (∀ a, a ∈ L ↔ Reach s.1 N a ∧ isRole s.1 a = true) ∧ E_impl_RoleSet_yjuniors s N = some (L.map fun a => (a, true)) := by
  obtain ⟨L, l1, l2, l3⟩ := juniors_walk (N := N) hs (N.length + (allUnder s.1).length) N [] (by rw [wgt_nil]; omega) hN (by simp) (by simp) (fun a ha => .base ha) (fun x hx _ => by
    rcases hx with h | ⟨v, hv, _⟩
    · exact .inr h
    · cases hv)
  refine ⟨L, l1, l2, evOpt_of ⟨N.length + (allUnder s.1).length + 1, fun m hm => ?_⟩⟩
  show P_impl_RoleSet_yjuniors m s N = _
  rw [P_impl_RoleSet_yjuniors, p_Clone_str (by omega), Option.bind_some]
  exact l3 m (by omega)
open Classical in
noncomputable def cyc (s : DRoleSet) (r : DRole) : Bool := decide (Reach s.1 r.2.1 r.1)
open Classical in
theorem cyc_iff {s : DRoleSet} {r : DRole} : cyc s r = true ↔ Reach s.1 r.2.1 r.1 := by unfold cyc; exact decide_eq_true_iff
def goodRole (s : DRoleSet) (r : DRole) : Bool := goodName r.1 && rolesOk s.1 r.2.1 && decide (r.2.2.length ≤ 20) && risingBy lessI r.2.2 && r.2.2.all goodName
def goodPart (s : DRoleSet) (p : DApart) : Bool := decide (2 ≤ p.1.length) && rolesOk s.1 p.1 && decide (1 ≤ p.2.1) && decide (p.2.1 < (p.1.length : Int))
noncomputable def goodRoleSet (s : DRoleSet) : Bool := decide (s.1.length ≤ 30) && decide (s.2.1.length ≤ 10) && rolesOk s.1 s.2.2 &&
  (s.1.all (goodRole s) && risingFrom (fun a b => lessI a.1 b.1) none s.1 && (s.1.all (fun r => !cyc s r) && s.2.1.all (goodPart s)))
theorem p_spec_GoodRoleSet_n (K : Bool) : ∀ l : List (List Int), (∀ a ∈ l, a.length ≤ maxLen) → P_spec_GoodRoleSet_0_9 (some K) l = some (l.all goodName && K)
  | [], _ => by rw [P_spec_GoodRoleSet_0_9]; simp
  | e :: r, h => by
    rw [P_spec_GoodRoleSet_0_9, p_spec_GoodName (h e (by simp)), p_spec_GoodRoleSet_n K r (fun a ha => h a (by simp [ha])), List.all_cons]
    simp only [Option.bind_some]
    cases goodName e <;> simp
theorem p_spec_GoodRoleSet_p {s : DRoleSet} (hs : s.1.length ≤ maxLen) : ∀ l : List DApart, (∀ p ∈ l, wfD TyApart p) → P_spec_GoodRoleSet_0_22 s l = some (l.all (goodPart s))
  | [], _ => rfl
  | p :: r, h => by
    have hp : wfD (.list .str) p.1 ∧ inK .i64 p.2.1 = true ∧ _ := h p (by simp)
    rw [P_spec_GoodRoleSet_0_22, p_spec_l15All hs hp.1, p_spec_GoodRoleSet_p hs r (fun a ha => h a (by simp [ha])), List.all_cons]
    simp only [Option.bind_some, goodPart, and_c, or_c, some_cond, some_dec]
    clear hp h hs
    grind (splits := 30)
theorem under_of {l : List DRole} {r : DRole} (h : r ∈ l) : r.2.1.length ≤ (allUnder l).length := by
  unfold allUnder
  induction l with
  | nil => cases h
  | cons e l ih =>
    rw [List.flatMap_cons, List.length_append]
    rcases List.mem_cons.1 h with rfl | h
    · omega
    · have := ih h; omega
theorem isRole_of : ∀ {l : List DRole} {r : DRole}, r ∈ l → isRole l r.1 = true
  | e :: l, r, h => by
    unfold isRole
    rw [roleOf]
    by_cases he : e.1 = r.1
    · simp [he]
    · simp only [he, decide_false, cond_false]
      rcases List.mem_cons.1 h with rfl | h
      · exact absurd rfl he
      · exact isRole_of h
theorem p_spec_GoodRoleSet_c {s : DRoleSet} (hw : wfD (.list TyRole) s.1) (hp : wfD (.list TyApart) s.2.1) (hu : (allUnder s.1).length ≤ 1048576) : ∀ l : List DRole, (∀ r ∈ l, r ∈ s.1) → P_spec_GoodRoleSet_0_16 s l = some (l.all (fun r => !cyc s r) && s.2.1.all (goodPart s))
  | [], _ => by rw [P_spec_GoodRoleSet_0_16, lenOk_pos hp.1, p_spec_GoodRoleSet_p hw.1 _ hp.2]; rfl
  | r :: l, h => by
    have hr : wfD .str r.1 ∧ wfD (.list .str) r.2.1 ∧ _ := hw.2 r (h r (by simp))
    have hl := under_of (h r (by simp))
    obtain ⟨L, _, l1, l2, _, l3⟩ := p_spec_l15Under hw hr.2.1 (by omega)
    rw [P_spec_GoodRoleSet_0_16, l3, Option.bind_some, p_spec_l3Has (by unfold maxLen; omega), Option.bind_some, p_spec_GoodRoleSet_c hw hp hu l (fun a ha => h a (by simp [ha])), List.all_cons]
    have : decide (r.1 ∈ L) = cyc s r := by rw [Bool.eq_iff_iff, decide_eq_true_eq, l1, cyc_iff]
    rw [this]
    cases cyc s r <;> simp
theorem p_spec_GoodRoleSet_r {s : DRoleSet} (hw : wfD (.list TyRole) s.1) {T : Bool} (hT : lenOk s.1 (P_spec_GoodRoleSet_0_16 s s.1) = some T) : ∀ (r : List DRole) (k : Nat), r = s.1.drop k →
    P_spec_GoodRoleSet_0_4 s r k = some (r.all (goodRole s) && risingFrom (fun a b => lessI a.1 b.1) (before s.1 k) r && T)
  | [], k, h => by rw [risingFrom_nil, P_spec_GoodRoleSet_0_4, hT]; simp
  | e :: r, k, h => by
    obtain ⟨h1, h2, h3, h4, h5⟩ := step_prev (d := Ty.dflt TyRole) hw.1 h
    have we : wfD .str e.1 ∧ wfD (.list .str) e.2.1 ∧ wfD (.list .str) e.2.2 := hw.2 e h4
    rw [P_spec_GoodRoleSet_0_4, p_spec_GoodName (wfS_len we.1), p_spec_l15All hw.1 we.2.1, p_spec_l3Rising we.2.2, lenOk_pos we.2.2.1, p_spec_GoodRoleSet_r hw hT r (k + 1) h1, p_spec_GoodRoleSet_n _ _ (fun a ha => wfS_len (we.2.2.2 a ha)), h2, risingFrom_cons, List.all_cons]
    simp only [Option.bind_some]
    rcases h5 with rfl | ⟨h5, h6, h7, h8⟩
    · simp only [goodRole, before_zero, Int.natCast_zero, Int.lt_irrefl, decide_false, cond_false, and_c, or_c, some_cond, some_dec]
      clear hw we h h1 h2 hT
      grind (splits := 30)
    · have wp : wfD .str _ ∧ _ := hw.2 _ h8
      rw [h6, h7, decide_eq_true (show (0 : Int) < (k : Int) by omega), p_spec_l1CmpText wp.1 we.1]
      simp only [Option.bind_some, goodRole, cmpStr_ge, cond_true, and_c, or_c, some_cond, some_dec]
      clear hw we h h1 h2 hT h7 h8 wp
      grind (splits := 30)
theorem p_spec_GoodRoleSet {s : DRoleSet} (hw : wfD TyRoleSet s) (hu : (allUnder s.1).length ≤ 1048576) : P_spec_GoodRoleSet s = some (goodRoleSet s) := by
  have w : wfD (.list TyRole) s.1 ∧ wfD (.list TyApart) s.2.1 ∧ wfD (.list .str) s.2.2 := hw
  have hT := p_spec_GoodRoleSet_c w.1 w.2.1 hu s.1 (fun r h => h)
  rw [P_spec_GoodRoleSet, p_spec_l15All w.1.1 w.2.2, lenOk_pos w.1.1, p_spec_GoodRoleSet_r w.1 (by rw [lenOk_pos w.1.1]; exact hT) s.1 0 rfl, before_zero]
  simp only [Option.bind_some, goodRoleSet, and_c, or_c, some_cond, some_dec]
  clear hw w hT hu
  grind (splits := 30)
theorem p_impl_GoodRoleSet_u {s : DRoleSet} (hs : s.1.length ≤ maxLen) (r : DRole) (hr : wfD (.list .str) r.2.2) (K : Bool) : ∀ (l : List (List Int)) (k : Nat), P_impl_GoodRoleSet_0_2_1002_1005_8024 (some K) s r l k = some (l.all (isRole s.1) && (decide (r.2.2.length ≤ 20) && risingBy lessI r.2.2 && r.2.2.all goodName) && K)
  | [], k => by
    rw [P_impl_GoodRoleSet_0_2_1002_1005_8024, p_impl_yrising hr.1, p_impl_yallNames hr]
    simp only [Option.bind_some, List.all_nil, and_c, or_c, some_cond, some_dec]
    clear hr hs
    grind
  | e :: l, k => by
    rw [P_impl_GoodRoleSet_0_2_1002_1005_8024, p_impl_yrole hs, p_impl_GoodRoleSet_u hs r hr K l (k + 1), List.all_cons]
    simp only [Option.bind_some, nat0, isRole]
    cases (roleOf s.1 e).2 <;> simp
theorem p_impl_GoodRoleSet_v {s : DRoleSet} (hs : s.1.length ≤ maxLen) (p : DApart) (hp : p.1.length ≤ maxLen) (K : Bool) : ∀ (l : List (List Int)) (k : Nat), P_impl_GoodRoleSet_0_2_1002_1005_20003 (some K) s p l k = some (l.all (isRole s.1) && (decide (2 ≤ p.1.length) && decide (1 ≤ p.2.1) && decide (p.2.1 < (p.1.length : Int))) && K)
  | [], k => by
    have hw : IntKind.wrap .i64 ((p.1.length : Int) - 1) = (p.1.length : Int) - 1 := wrapU (by unfold maxLen at hp; omega)
    rw [P_impl_GoodRoleSet_0_2_1002_1005_20003, hw]
    simp only [List.all_nil, and_c, or_c, some_cond, some_dec]
    clear hs hw hp
    grind
  | e :: l, k => by
    rw [P_impl_GoodRoleSet_0_2_1002_1005_20003, p_impl_yrole hs, p_impl_GoodRoleSet_v hs p hp K l (k + 1), List.all_cons]
    simp only [Option.bind_some, nat0, isRole]
    cases (roleOf s.1 e).2 <;> simp
theorem p_impl_GoodRoleSet_g {s : DRoleSet} (hs : s.1.length ≤ maxLen) : ∀ (l : List (List Int)) (k : Nat), P_impl_GoodRoleSet_0_2_1002_1005_23003 s l k = some (l.all (isRole s.1))
  | [], k => rfl
  | e :: l, k => by
    rw [P_impl_GoodRoleSet_0_2_1002_1005_23003, p_impl_yrole hs, p_impl_GoodRoleSet_g hs l (k + 1), List.all_cons]
    simp only [Option.bind_some, nat0, isRole]
    cases (roleOf s.1 e).2 <;> simp
theorem p_impl_GoodRoleSet_p {s : DRoleSet} (hs : s.1.length ≤ maxLen) (hg : s.2.2.length ≤ maxLen) : ∀ l : List DApart, (∀ p ∈ l, wfD TyApart p) → P_impl_GoodRoleSet_0_18 s l = some (l.all (goodPart s) && rolesOk s.1 s.2.2)
  | [], _ => by
    rw [P_impl_GoodRoleSet_0_18, p_impl_yrising hg, lenOk_pos hg, p_impl_GoodRoleSet_g hs]
    simp only [Option.bind_some, rolesOk, List.all_nil, Bool.true_and]
    cases risingBy lessI s.2.2 <;> simp
  | p :: r, h => by
    have hp : wfD (.list .str) p.1 ∧ inK .i64 p.2.1 = true ∧ _ := h p (by simp)
    rw [P_impl_GoodRoleSet_0_18, p_impl_yrising hp.1.1, lenOk_pos hp.1.1, p_impl_GoodRoleSet_p hs hg r (fun a ha => h a (by simp [ha])), p_impl_GoodRoleSet_v hs p hp.1.1, List.all_cons]
    simp only [Option.bind_some, goodPart, rolesOk, and_c, or_c, some_cond, some_dec]
    clear hp h hs hg
    grind (splits := 30)
theorem p_impl_GoodRoleSet_c {s : DRoleSet} (hw : wfD (.list TyRole) s.1) (hp : wfD (.list TyApart) s.2.1) (hg : s.2.2.length ≤ maxLen) (hu : (allUnder s.1).length ≤ 1048576) : ∀ l : List DRole, (∀ r ∈ l, r ∈ s.1) → P_impl_GoodRoleSet_0_12 s l = some (l.all (fun r => !cyc s r) && (s.2.1.all (goodPart s) && rolesOk s.1 s.2.2))
  | [], _ => by rw [P_impl_GoodRoleSet_0_12, lenOk_pos hp.1, p_impl_GoodRoleSet_p hw.1 hg _ hp.2]; rfl
  | r :: l, h => by
    have hl := under_of (h r (by simp))
    obtain ⟨L, _, l1, l3⟩ := p_impl_yjuniors (s := s) (N := r.2.1) hw.1 (by omega)
    rw [P_impl_GoodRoleSet_0_12, l3, Option.bind_some, p_impl_GoodRoleSet_c hw hp hg hu l (fun a ha => h a (by simp [ha])), List.all_cons]
    have : getM .str (L.map fun a => (a, true)) r.1 false = cyc s r := by
      rw [Bool.eq_iff_iff, getM_tt, l1, cyc_iff]
      exact ⟨fun h => h.1, fun q => ⟨q, isRole_of (h r (by simp))⟩⟩
    rw [this]
    cases cyc s r <;> simp
theorem p_impl_GoodRoleSet_r {s : DRoleSet} (hw : wfD (.list TyRole) s.1) {T : Bool} (hT : lenOk s.1 (P_impl_GoodRoleSet_0_12 s s.1) = some T) : ∀ (r : List DRole) (k : Nat), r = s.1.drop k →
    P_impl_GoodRoleSet_0_6 s r k = some (r.all (goodRole s) && risingFrom (fun a b => lessI a.1 b.1) (before s.1 k) r && T)
  | [], k, h => by rw [risingFrom_nil, P_impl_GoodRoleSet_0_6, hT]; simp
  | e :: r, k, h => by
    obtain ⟨h1, h2, h3, h4, h5⟩ := step_prev (d := Ty.dflt TyRole) hw.1 h
    have we : wfD .str e.1 ∧ wfD (.list .str) e.2.1 ∧ wfD (.list .str) e.2.2 := hw.2 e h4
    rw [P_impl_GoodRoleSet_0_6, p_impl_GoodName (wfS_len we.1), p_impl_yrising we.2.1.1, lenOk_pos we.2.1.1, p_impl_GoodRoleSet_r hw hT r (k + 1) h1, p_impl_GoodRoleSet_u hw.1 e we.2.2, h2, risingFrom_cons, List.all_cons]
    simp only [Option.bind_some]
    rcases h5 with rfl | ⟨h5, h6, h7, h8⟩
    · simp only [goodRole, rolesOk, before_zero, Int.natCast_zero, Int.lt_irrefl, decide_false, cond_false, and_c, or_c, some_cond, some_dec]
      clear hw we h h1 h2 hT
      grind (splits := 30)
    · rw [h6, h7, decide_eq_true (show (0 : Int) < (k : Int) by omega)]
      simp only [Option.bind_some, goodRole, rolesOk, cond_true, and_c, or_c, some_cond, some_dec]
      clear hw we h h1 h2 hT h7 h8
      grind (splits := 30)
theorem p_impl_GoodRoleSet {s : DRoleSet} (hw : wfD TyRoleSet s) (hu : (allUnder s.1).length ≤ 1048576) : P_impl_GoodRoleSet s = some (goodRoleSet s) := by
  have w : wfD (.list TyRole) s.1 ∧ wfD (.list TyApart) s.2.1 ∧ wfD (.list .str) s.2.2 := hw
  have hT := p_impl_GoodRoleSet_c w.1 w.2.1 w.2.2.1 hu s.1 (fun r h => h)
  rw [P_impl_GoodRoleSet, lenOk_pos w.1.1, p_impl_GoodRoleSet_r w.1 (by rw [lenOk_pos w.1.1]; exact hT) s.1 0 rfl, before_zero]
  simp only [goodRoleSet, and_c, or_c, some_cond, some_dec]
  clear hw w hT hu
  grind (splits := 30)
theorem under_size : ∀ l : List DRole, (allUnder l).length ≤ (l.map (Ty.size TyRole)).sum
  | [] => Nat.le_refl _
  | r :: l => by
    have ih := under_size l
    have h1 : Ty.size TyRole r = Ty.size .str r.1 + (Ty.size (.list .str) r.2.1 + Ty.size (.list .str) r.2.2) := rfl
    have h2 : Ty.size (.list .str) r.2.1 = r.2.1.length + (r.2.1.map (Ty.size .str)).sum := rfl
    unfold allUnder at ih ⊢
    rw [List.flatMap_cons, List.length_append, List.map_cons, List.sum_cons]
    omega
theorem under_le {s : DRoleSet} (h : Ty.size TyRoleSet s ≤ 1048576) : (allUnder s.1).length ≤ 1048576 := by
  have := under_size s.1
  have h1 : Ty.size TyRoleSet s = (s.1.length + (s.1.map (Ty.size TyRole)).sum) + (Ty.size (.list TyApart) s.2.1 + Ty.size (.list .str) s.2.2) := rfl
  omega
def sumS : List DRoleSession → Int → Int
  | [], x => x
  | e :: r, x => sumS r (IntKind.wrap .i64 (x + (IntKind.wrap .i64 ((e.2.2.1.length : Int) + (e.2.2.2.1.length : Int)))))
def depthOk (g : DRoleGrant) : Bool := decide (0 ≤ g.2.2.2.2.1) && decide (g.2.2.2.2.1 ≤ 2)
def smallSt (st : DRoleState) : Bool := st.2.1.all depthOk && decide (sumS st.2.2.1 (IntKind.wrap .i64 ((st.2.1.length : Int) + (st.2.2.1.length : Int))) ≤ 300)
theorem p_spec_l15Small_g (x : Int) : ∀ l : List DRoleGrant, P_spec_l15Small_0_8 x l = some (l.all depthOk && decide (x ≤ 300))
  | [] => by rw [P_spec_l15Small_0_8]; simp
  | e :: r => by
    rw [P_spec_l15Small_0_8, p_spec_l15Small_g x r, List.all_cons, depthOk]
    grind
theorem p_spec_l15Small_l {st : DRoleState} (h : st.2.1.length ≤ maxLen) : ∀ (l : List DRoleSession) (x : Int), P_spec_l15Small_0_3 st l x = some (st.2.1.all depthOk && decide (sumS l x ≤ 300))
  | [], x => by rw [P_spec_l15Small_0_3, lenOk_pos h, p_spec_l15Small_g]; rfl
  | e :: r, x => by rw [P_spec_l15Small_0_3, p_spec_l15Small_l h r]; rfl
theorem p_spec_l15Small {st : DRoleState} (h : st.2.1.length ≤ maxLen) (h2 : st.2.2.1.length ≤ maxLen) : P_spec_l15Small st = some (smallSt st) := by
  rw [P_spec_l15Small, lenOk_pos h2, p_spec_l15Small_l h]; rfl
theorem p_impl_ygoodRoleState_g : ∀ (l : List DRoleGrant) (k : Nat), P_impl_ygoodRoleState_0_2_1002_7009 l k = some (l.all depthOk)
  | [], k => rfl
  | e :: r, k => by
    rw [P_impl_ygoodRoleState_0_2_1002_7009, p_impl_ygoodRoleState_g r (k + 1), List.all_cons, depthOk, nat0]
    grind
theorem p_impl_ygoodRoleState_l {s : DRoleSet} {st : DRoleState} (hw : wfD TyRoleSet s) (hu : (allUnder s.1).length ≤ 1048576) (h : st.2.1.length ≤ maxLen) : ∀ (l : List DRoleSession) (x : Int), P_impl_ygoodRoleState_0_3 s st l x = some (goodRoleSet s && (st.2.1.all depthOk && decide (sumS l x ≤ 300)))
  | [], x => by
    rw [P_impl_ygoodRoleState_0_3, lenOk_pos h, p_impl_ygoodRoleState_g, p_impl_GoodRoleSet hw hu, Option.bind_some, sumS]
    cases goodRoleSet s <;> cases decide (x ≤ 300) <;> simp
  | e :: r, x => by rw [P_impl_ygoodRoleState_0_3, p_impl_ygoodRoleState_l hw hu h r]; rfl
theorem p_impl_ygoodRoleState {s : DRoleSet} {st : DRoleState} (hw : wfD TyRoleSet s) (hu : (allUnder s.1).length ≤ 1048576) (h : st.2.1.length ≤ maxLen) (h2 : st.2.2.1.length ≤ maxLen) : P_impl_ygoodRoleState s st = some (goodRoleSet s && smallSt st) := by
  rw [P_impl_ygoodRoleState, lenOk_pos h2, p_impl_ygoodRoleState_l hw hu h]; rfl
def cnt (gr : List DRoleGrant) (t : Int) : Nat → DRoleGrant → Bool
  | 0, _ => false
  | d + 1, g => decide (t ≤ g.2.2.2.1) && (decide (g.2.2.1 = []) || gr.any fun x => decide (x.1 = g.2.2.1) && decide (x.2.1 = g.2.1) && decide (x.2.2.2.2.1 < g.2.2.2.2.1) && cnt gr t d x)
theorem cnt_stable {gr : List DRoleGrant} {t : Int} (hg : ∀ g ∈ gr, 0 ≤ g.2.2.2.2.1) : ∀ (d d' : Nat) (g : DRoleGrant), 0 ≤ g.2.2.2.2.1 → g.2.2.2.2.1 < d → g.2.2.2.2.1 < d' → cnt gr t d g = cnt gr t d' g
  | 0, _, g, h0, h1, _ => by omega
  | _ + 1, 0, g, h0, _, h2 => by omega
  | d + 1, d' + 1, g, h0, h1, h2 => by
    rw [cnt, cnt]
    congr 2
    rw [Bool.eq_iff_iff, List.any_eq_true, List.any_eq_true]
    constructor
    · rintro ⟨x, hx, h⟩
      refine ⟨x, hx, ?_⟩
      simp only [Bool.and_eq_true, decide_eq_true_eq] at h ⊢
      refine ⟨h.1, ?_⟩
      rw [← cnt_stable hg d d' x (hg x hx) (by omega) (by omega)]; exact h.2
    · rintro ⟨x, hx, h⟩
      refine ⟨x, hx, ?_⟩
      simp only [Bool.and_eq_true, decide_eq_true_eq] at h ⊢
      refine ⟨h.1, ?_⟩
      rw [cnt_stable hg d d' x (hg x hx) (by omega) (by omega)]; exact h.2
def cntG (gr : List DRoleGrant) (t : Int) (g : DRoleGrant) : Bool := cnt gr t (g.2.2.2.2.1.toNat + 1) g
theorem cntG_eq {gr : List DRoleGrant} {t : Int} (hg : ∀ g ∈ gr, 0 ≤ g.2.2.2.2.1) {g : DRoleGrant} (h0 : 0 ≤ g.2.2.2.2.1) : cntG gr t g = (decide (t ≤ g.2.2.2.1) && (decide (g.2.2.1 = []) || gr.any fun x => decide (x.1 = g.2.2.1) && decide (x.2.1 = g.2.1) && decide (x.2.2.2.2.1 < g.2.2.2.2.1) && cntG gr t x)) := by
  unfold cntG
  rw [cnt]
  congr 2
  rw [Bool.eq_iff_iff, List.any_eq_true, List.any_eq_true]
  constructor
  · rintro ⟨x, hx, h⟩
    refine ⟨x, hx, ?_⟩
    simp only [Bool.and_eq_true, decide_eq_true_eq] at h ⊢
    have := hg x hx
    refine ⟨h.1, ?_⟩
    rw [← cnt_stable hg g.2.2.2.2.1.toNat _ x this (by omega) (by omega)]; exact h.2
  · rintro ⟨x, hx, h⟩
    refine ⟨x, hx, ?_⟩
    simp only [Bool.and_eq_true, decide_eq_true_eq] at h ⊢
    have := hg x hx
    refine ⟨h.1, ?_⟩
    rw [cnt_stable hg g.2.2.2.2.1.toNat (x.2.2.2.2.1.toNat + 1) x this (by omega) (by omega)]; exact h.2
theorem p_impl_ycounts_l {Rc : List DRoleGrant → DRoleGrant → Int → Option Bool} {gr : List DRoleGrant} {g : DRoleGrant} {t : Int} {f : DRoleGrant → Bool} : ∀ (l : List DRoleGrant) (k : Nat), (∀ x ∈ l, x.2.2.2.2.1 < g.2.2.2.2.1 → Rc gr x t = some (f x)) →
    P_impl_ycounts_0_2_1002_3006 Rc gr g t l k = some (l.any fun x => decide (x.1 = g.2.2.1) && decide (x.2.1 = g.2.1) && decide (x.2.2.2.2.1 < g.2.2.2.2.1) && f x)
  | [], k, _ => rfl
  | e :: r, k, h => by
    rw [P_impl_ycounts_0_2_1002_3006, p_impl_ycounts_l r (k + 1) (fun x hx => h x (by simp [hx])), List.any_cons]
    cases decide (e.1 = g.2.2.1) <;> cases decide (e.2.1 = g.2.1) <;> try (simp; done)
    by_cases hd : e.2.2.2.2.1 < g.2.2.2.2.1
    · rw [h e (by simp) hd, Option.bind_some, nat0]
      simp only [hd, decide_true, cond_true, Bool.true_and]
      cases f e <;> simp
    · simp [hd]
theorem p_impl_ycounts_r {gr : List DRoleGrant} {t : Int} (hl : gr.length ≤ maxLen) (hg : ∀ g ∈ gr, 0 ≤ g.2.2.2.2.1) : ∀ (d : Nat) (g : DRoleGrant), 0 ≤ g.2.2.2.2.1 → g.2.2.2.2.1 < d → R_impl_ycounts d gr g t = some (cntG gr t g)
  | 0, g, h0, h1 => by omega
  | d + 1, g, h0, h1 => by
    show P_impl_ycounts (R_impl_ycounts d) gr g t = _
    rw [P_impl_ycounts, lenOk_pos hl, p_impl_ycounts_l (f := cntG gr t) gr 0 (fun x hx hlt => p_impl_ycounts_r hl hg d x (hg x hx) (by omega)), cntG_eq hg h0]
    by_cases h2 : t ≤ g.2.2.2.1
    · rw [decide_eq_false (show ¬ g.2.2.2.1 < t by omega), decide_eq_true h2]
      cases decide (g.2.2.1 = []) <;> simp
    · rw [decide_eq_true (show g.2.2.2.1 < t by omega), decide_eq_false h2]; simp
theorem p_impl_ycounts {gr : List DRoleGrant} {t : Int} (hl : gr.length ≤ maxLen) (hg : ∀ g ∈ gr, 0 ≤ g.2.2.2.2.1) {g : DRoleGrant} (h0 : 0 ≤ g.2.2.2.2.1) : E_impl_ycounts gr g t = some (cntG gr t g) :=
  evOpt_of ⟨g.2.2.2.2.1.toNat + 1, fun d hd => p_impl_ycounts_r hl hg d g h0 (by omega)⟩
theorem p_spec_l15Counts_l {Rc : List DRoleGrant → List Int → List Int → Int → Int → Option Bool} {gr : List DRoleGrant} {u ro : List Int} {b t : Int} {f : DRoleGrant → Bool} : ∀ (l : List DRoleGrant), (∀ x ∈ l, x.2.2.2.2.1 < b → Rc gr x.2.2.1 x.2.1 x.2.2.2.2.1 t = some (f x)) →
    P_spec_l15Counts_0_2 Rc gr u ro b t l = some (l.any fun x => decide (x.1 = u) && decide (x.2.1 = ro) && decide (x.2.2.2.2.1 < b) && (decide (t ≤ x.2.2.2.1) && (decide (x.2.2.1 = []) || f x)))
  | [], _ => rfl
  | e :: r, h => by
    rw [P_spec_l15Counts_0_2, p_spec_l15Counts_l r (fun x hx => h x (by simp [hx])), List.any_cons]
    by_cases h1 : e.1 = u
    case neg => simp [h1]
    by_cases h2 : e.2.1 = ro
    case neg => simp [h1, h2]
    by_cases hd : e.2.2.2.2.1 < b
    case neg => simp [h1, h2, hd]
    have hle : T_spec_l15Lesser e.2.2.2.2.1 b = e.2.2.2.2.1 := by unfold T_spec_l15Lesser; rw [decide_eq_true hd]; rfl
    have hR := h e (by simp) hd
    rw [h2] at hR
    rw [hle, hR]
    simp only [h1, h2, hd, decide_true, cond_true, Bool.true_and, Option.bind_some]
    cases decide (t ≤ e.2.2.2.1) <;> cases decide (e.2.2.1 = []) <;> cases f e <;> simp
theorem p_spec_l15Counts_r {gr : List DRoleGrant} {t : Int} (hl : gr.length ≤ maxLen) (hg : ∀ g ∈ gr, 0 ≤ g.2.2.2.2.1) : ∀ (d : Nat) (u ro : List Int) (b : Int), 0 ≤ b → b < d → R_spec_l15Counts d gr u ro b t = some (gr.any fun x => decide (x.1 = u) && decide (x.2.1 = ro) && decide (x.2.2.2.2.1 < b) && cntG gr t x)
  | 0, u, ro, b, h0, h1 => by omega
  | d + 1, u, ro, b, h0, h1 => by
    show P_spec_l15Counts (R_spec_l15Counts d) gr u ro b t = _
    rw [P_spec_l15Counts, lenOk_pos hl, p_spec_l15Counts_l (f := fun y => gr.any fun x => decide (x.1 = y.2.2.1) && decide (x.2.1 = y.2.1) && decide (x.2.2.2.2.1 < y.2.2.2.2.1) && cntG gr t x) gr (fun x hx hlt => p_spec_l15Counts_r hl hg d _ _ _ (hg x hx) (by omega))]
    congr 1
    rw [Bool.eq_iff_iff, List.any_eq_true, List.any_eq_true]
    constructor
    · rintro ⟨x, hx, h⟩
      exact ⟨x, hx, by rw [cntG_eq hg (hg x hx)]; exact h⟩
    · rintro ⟨x, hx, h⟩
      exact ⟨x, hx, by rw [cntG_eq hg (hg x hx)] at h; exact h⟩
theorem p_spec_l15Counts {gr : List DRoleGrant} {t : Int} (hl : gr.length ≤ maxLen) (hg : ∀ g ∈ gr, 0 ≤ g.2.2.2.2.1) {u ro : List Int} {b : Int} (h0 : 0 ≤ b) : E_spec_l15Counts gr u ro b t = some (gr.any fun x => decide (x.1 = u) && decide (x.2.1 = ro) && decide (x.2.2.2.2.1 < b) && cntG gr t x) :=
  evOpt_of ⟨b.toNat + 1, fun d hd => p_spec_l15Counts_r hl hg d u ro b h0 (by omega)⟩
theorem reach_roles {l : List DRole} {N : List (List Int)} {a : List Int} (h : Reach l N a) : isRole l a = true → Reach l (N.filter (isRole l)) a := by
  induction h with
  | base h => intro hr; exact .base (List.mem_filter.2 ⟨h, hr⟩)
  | @step x y hx hy ih =>
    intro _
    have hxr : isRole l x = true := by
      unfold isRole
      cases q : (roleOf l x).2 with
      | true => rfl
      | false => unfold underOf at hy; rw [roleOf_no q] at hy; cases hy
    exact .step (ih hxr) hy
theorem reach_mono {l : List DRole} {N N' : List (List Int)} (hs : ∀ x ∈ N, x ∈ N') {a : List Int} (h : Reach l N a) : Reach l N' a := by
  induction h with
  | base h => exact .base (hs _ h)
  | step _ hy ih => exact .step ih hy
theorem under_roles {s : DRoleSet} (hg : goodRoleSet s = true) {x y : List Int} (hy : y ∈ underOf s.1 x) : isRole s.1 y = true := by
  unfold underOf at hy
  cases q : (roleOf s.1 x).2 with
  | false => rw [roleOf_no q] at hy; cases hy
  | true =>
    obtain ⟨h1, _⟩ := roleOf_yes q
    unfold goodRoleSet at hg
    simp only [Bool.and_eq_true, List.all_eq_true] at hg
    have := hg.2.1.1 _ h1
    unfold goodRole rolesOk at this
    simp only [Bool.and_eq_true, List.all_eq_true] at this
    exact this.1.1.1.2.1 y hy
theorem reach_isRole {s : DRoleSet} (hg : goodRoleSet s = true) {N : List (List Int)} (hN : ∀ x ∈ N, isRole s.1 x = true) {a : List Int} (h : Reach s.1 N a) : isRole s.1 a = true := by
  cases h with
  | base h => exact hN _ h
  | step _ hy => exact under_roles hg hy
open Classical in
/-- The roles among those under some names. -/
noncomputable def inR (s : DRoleSet) (N : List (List Int)) (a : List Int) : Bool := decide (Reach s.1 N a ∧ isRole s.1 a = true)
open Classical in
theorem inR_iff {s : DRoleSet} {N : List (List Int)} {a : List Int} : inR s N a = true ↔ Reach s.1 N a ∧ isRole s.1 a = true := by unfold inR; exact decide_eq_true_iff
theorem inR_filter {s : DRoleSet} (hg : goodRoleSet s = true) {N : List (List Int)} {a : List Int} : Reach s.1 (N.filter (isRole s.1)) a ↔ inR s N a = true := by
  rw [inR_iff]
  constructor
  · intro h
    exact ⟨reach_mono (fun x hx => (List.mem_filter.1 hx).1) h, reach_isRole hg (fun x hx => (List.mem_filter.1 hx).2) h⟩
  · rintro ⟨h1, h2⟩; exact reach_roles h1 h2
def namesOf (gr : List DRoleGrant) (t : Int) (u : List Int) (l : List DRoleGrant) : List (List Int) := (l.filter fun g => decide (g.1 = u) && cntG gr t g).map (·.2.1)
theorem room16 {n m : Nat} (h : n + m ≤ 4000000) : (decide (((n : Int) + (m : Int)) * 16 ≤ room) && decide ((n : Int) + (m : Int) ≤ room)) = true := by
  rw [room_eq]; simp; omega
theorem p_spec_l15Authorised_l {s : DRoleSet} (hs : s.1.length ≤ maxLen) {gr : List DRoleGrant} {t : Int} (hl : gr.length ≤ maxLen) (hg : ∀ g ∈ gr, 0 ≤ g.2.2.2.2.1) (u : List Int) : ∀ (l : List DRoleGrant) (acc : List (List Int)), (∀ g ∈ l, g ∈ gr) → acc.length + l.length ≤ 3000000 →
    P_spec_l15Authorised_0_3 gr u t false s l acc = Option.bind (E_spec_l15Under s (acc ++ (namesOf gr t u l).filter (isRole s.1))) some
  | [], acc, _, _ => by rw [P_spec_l15Authorised_0_3, namesOf]; simp
  | e :: r, acc, hm, hc => by
    rw [List.length_cons] at hc
    have ih := fun acc' h => p_spec_l15Authorised_l hs hl hg (t := t) u r acc' (fun g hg => hm g (by simp [hg])) h
    have he := hg e (hm e (by simp))
    rw [P_spec_l15Authorised_0_3, p_spec_l15Role hs, Option.bind_some, P_spec_l15Authorised_1_7, p_spec_l15Counts hl hg he, Option.bind_some, ih acc (by omega), ih (acc ++ [e.2.1]) (by rw [List.length_append]; simp; omega)]
    have hrm : (decide (((acc.length : Int) + (([e.2.1] : List (List Int)).length : Int)) * 16 ≤ room) && decide ((acc.length : Int) + (([e.2.1] : List (List Int)).length : Int) ≤ room)) = true := room16 (by simp; omega)
    rw [hrm]
    have hn : namesOf gr t u (e :: r) = (bif decide (e.1 = u) && cntG gr t e then [e.2.1] else []) ++ namesOf gr t u r := by
      unfold namesOf
      rw [List.filter_cons]
      cases decide (e.1 = u) && cntG gr t e <;> rfl
    rw [hn, List.filter_append, cntG_eq hg he]
    have hr : isRole s.1 e.2.1 = (roleOf s.1 e.2.1).2 := rfl
    cases h1 : (roleOf s.1 e.2.1).2 with
    | false =>
      rw [h1] at hr
      cases decide (e.1 = u) && (decide (t ≤ e.2.2.2.1) && (decide (e.2.2.1 = []) || gr.any fun x => decide (x.1 = e.2.2.1) && decide (x.2.1 = e.2.1) && decide (x.2.2.2.2.1 < e.2.2.2.2.1) && cntG gr t x)) <;> simp [hr]
    | true =>
      rw [h1] at hr
      by_cases hu : e.1 = u
      case neg => simp [hu]
      by_cases ht : t ≤ e.2.2.2.1
      case neg => simp [hu, ht, show e.2.2.2.1 < t by omega]
      rw [decide_eq_false (show ¬ e.2.2.2.1 < t by omega), decide_eq_true ht, decide_eq_true hu]
      cases decide (e.2.2.1 = []) <;> cases (gr.any fun x => decide (x.1 = e.2.2.1) && decide (x.2.1 = e.2.1) && decide (x.2.2.2.2.1 < e.2.2.2.2.1) && cntG gr t x) <;> simp [hr]
theorem names_len (gr : List DRoleGrant) (t : Int) (u : List Int) (l : List DRoleGrant) : (namesOf gr t u l).length ≤ l.length := by
  unfold namesOf; rw [List.length_map]; exact List.length_filter_le _ _
theorem names_wf {gr : List DRoleGrant} {t : Int} {u : List Int} {l : List DRoleGrant} (h : ∀ g ∈ l, wfD TyRoleGrant g) : ∀ a ∈ namesOf gr t u l, wfD .str a := by
  intro a ha
  obtain ⟨g, hg, rfl⟩ := List.mem_map.1 ha
  have : wfD .str g.1 ∧ wfD .str g.2.1 ∧ _ := h g (List.mem_filter.1 hg).1
  exact this.2.1
theorem p_spec_l15Authorised {s : DRoleSet} (hw : wfD (.list TyRole) s.1) (hu : (allUnder s.1).length ≤ 1048576) (hgood : goodRoleSet s = true) {gr : List DRoleGrant} {t : Int} (hl : gr.length ≤ 2000000) (hgw : ∀ g ∈ gr, wfD TyRoleGrant g) (hg : ∀ g ∈ gr, 0 ≤ g.2.2.2.2.1) (u : List Int) :
    ∃ L : List (List Int), L.length ≤ 4000000 ∧ (∀ a, a ∈ L ↔ inR s (namesOf gr t u gr) a = true) ∧ P_spec_l15Authorised s gr u t false = some L := by
  have hnl := names_len gr t u gr
  have hfl : ((namesOf gr t u gr).filter (isRole s.1)).length ≤ (namesOf gr t u gr).length := List.length_filter_le _ _
  obtain ⟨L, _, l1, l2, _, l3⟩ := p_spec_l15Under (N := (namesOf gr t u gr).filter (isRole s.1)) hw ⟨by unfold maxLen; show _ ≤ _; omega, fun a ha => names_wf hgw a (List.mem_filter.1 ha).1⟩ (by omega)
  refine ⟨L, l2, fun a => by rw [l1, inR_filter hgood], ?_⟩
  rw [P_spec_l15Authorised, lenOk_pos (by unfold maxLen; omega), p_spec_l15Authorised_l hw.1 (by unfold maxLen; omega) hg u gr [] (fun g h => h) (by simp; omega), List.nil_append, l3]
  rfl
theorem p_impl_yauthorised_l {s : DRoleSet} {gr : List DRoleGrant} {t : Int} (hl : gr.length ≤ maxLen) (hg : ∀ g ∈ gr, 0 ≤ g.2.2.2.2.1) (u : List Int) : ∀ (l : List DRoleGrant) (acc : List (List Int)), (∀ g ∈ l, g ∈ gr) → acc.length + l.length ≤ 3000000 →
    P_impl_RoleSet_yauthorised_0_3 gr u t s l acc = Option.bind (E_impl_RoleSet_yjuniors s (acc ++ namesOf gr t u l)) some
  | [], acc, _, _ => by rw [P_impl_RoleSet_yauthorised_0_3, namesOf]; simp
  | e :: r, acc, hm, hc => by
    rw [List.length_cons] at hc
    have ih := fun acc' h => p_impl_yauthorised_l (s := s) hl hg (t := t) u r acc' (fun g hg => hm g (by simp [hg])) h
    have he := hg e (hm e (by simp))
    rw [P_impl_RoleSet_yauthorised_0_3, p_impl_ycounts hl hg he, Option.bind_some, ih acc (by omega), ih (acc ++ [e.2.1]) (by rw [List.length_append]; simp; omega)]
    have hrm : (decide (((acc.length : Int) + (([e.2.1] : List (List Int)).length : Int)) * 16 ≤ room) && decide ((acc.length : Int) + (([e.2.1] : List (List Int)).length : Int) ≤ room)) = true := room16 (by simp; omega)
    have hn : namesOf gr t u (e :: r) = (bif decide (e.1 = u) && cntG gr t e then [e.2.1] else []) ++ namesOf gr t u r := by
      unfold namesOf
      rw [List.filter_cons]
      cases decide (e.1 = u) && cntG gr t e <;> rfl
    have hrm2 : (decide (((acc.length : Int) + (([((e).2).1] : List (List Int)).length : Int)) * 16 ≤ room) && decide ((acc.length : Int) + (([((e).2).1] : List (List Int)).length : Int) ≤ room)) = true := hrm
    rw [hn, hrm2]
    cases decide (e.1 = u) <;> cases cntG gr t e <;> simp
theorem p_impl_yauthorised {s : DRoleSet} (hs : s.1.length ≤ maxLen) (hu : (allUnder s.1).length ≤ 1048576) {gr : List DRoleGrant} {t : Int} (hl : gr.length ≤ 2000000) (hg : ∀ g ∈ gr, 0 ≤ g.2.2.2.2.1) (u : List Int) :
    ∃ L : List (List Int), L.Nodup ∧ (∀ a, a ∈ L ↔ inR s (namesOf gr t u gr) a = true) ∧ P_impl_RoleSet_yauthorised s gr u t = some (L.map fun a => (a, true)) := by
  have hnl := names_len gr t u gr
  obtain ⟨L, l0, l1, l3⟩ := p_impl_yjuniors (N := namesOf gr t u gr) hs (by omega)
  refine ⟨L, l0, fun a => by rw [l1, inR_iff], ?_⟩
  rw [P_impl_RoleSet_yauthorised, lenOk_pos (by unfold maxLen; omega), p_impl_yauthorised_l (by unfold maxLen; omega) hg u gr [] (fun g h => h) (by simp; omega), List.nil_append, l3]
  rfl
theorem toB_lt : ∀ {a b : List Int}, bytesL a → bytesL b → lessI a b = true → toB a < toB b
  | a, [], _, _, h => by cases a <;> cases h
  | [], b :: y, _, _, _ => by show toB [] < toB (b :: y); simp [toB]
  | a :: x, b :: y, ha, hb, h => by
    have h1 := ha.head
    have h2 := hb.head
    show (UInt8.ofNat a.toNat) :: toB x < (UInt8.ofNat b.toNat) :: toB y
    rw [List.cons_lt_cons_iff]
    simp only [lessI, Bool.or_eq_true, Bool.and_eq_true, decide_eq_true_eq] at h
    rcases h with h | ⟨rfl, h⟩
    · left
      rw [UInt8.lt_iff_toNat_lt, UInt8.toNat_ofNat', UInt8.toNat_ofNat']
      have e1 : a.toNat % 2 ^ 8 = a.toNat := Nat.mod_eq_of_lt (by omega)
      have e2 : b.toNat % 2 ^ 8 = b.toNat := Nat.mod_eq_of_lt (by omega)
      omega
    · exact .inr ⟨rfl, toB_lt ha.tail hb.tail h⟩
theorem ofB_toB {l : List Int} (h : bytesL l) : ofB (toB l) = l := by
  unfold ofB toB
  rw [List.map_map]
  conv => rhs; rw [← List.map_id l]
  apply List.map_congr_left
  intro b hb
  have := h b hb
  simp only [Function.comp, id]
  rw [UInt8.toNat_ofNat']
  have : b.toNat % 2 ^ 8 = b.toNat := Nat.mod_eq_of_lt (by omega)
  omega
theorem sortK_eq {l zs : List (List Int)} (hb : ∀ a ∈ l, bytesL a) (hn : l.Nodup) (hz : zs.Pairwise lessP) (hm : ∀ a, a ∈ zs ↔ a ∈ l) : sortK l = zs := by
  have hbz : ∀ a ∈ zs, bytesL a := fun a ha => hb a ((hm a).1 ha)
  have hzn : zs.Nodup := by
    refine hz.imp fun {a b} h e => ?_
    subst e
    have h : lessI a a = true := h
    rw [lessI_irrefl] at h
    cases h
  have hperm : l.Perm zs := (List.perm_ext_iff_of_nodup hn hzn).2 fun a => (hm a).symm
  have hs : (zs.map toB).Pairwise fun a b => decide (a ≤ b) = true := by
    rw [List.pairwise_map]
    refine hz.imp_of_mem fun {a b} ha hb' h => ?_
    exact decide_eq_true (List.le_of_lt (toB_lt (hbz a ha) (hbz b hb') h))
  unfold sortK
  have e : (l.map toB).mergeSort (fun x y => decide (x ≤ y)) = (zs.map toB).mergeSort fun x y => decide (x ≤ y) := mergeSort_of_perm (hperm.map toB)
  rw [e, List.mergeSort_of_pairwise hs, List.map_map]
  conv => rhs; rw [← List.map_id zs]
  exact List.map_congr_left fun a ha => ofB_toB (hbz a ha)
theorem p_heldStringS_l : ∀ (xs : List (List Int)) (k : Int), 0 ≤ k → k + xs.length ≤ markTop → P_laws_heldStringS_0_2 (foldM (markE .str) xs k).2 k = some (foldM (markE .str) xs k).1
  | [], k, _, _ => rfl
  | x :: xs, k, h0, h1 => by
    simp only [List.length_cons] at h1
    have e : markE .str x k = (k + 1, mtext k) := rfl
    rw [foldM_cons, e]
    rw [P_laws_heldStringS_0_2, p_markText k h0 (by omega), wrap_i64 (k := k + 1) (by omega) (by omega)]
    simp only [Option.bind_some, decide_true, Bool.not_true, cond_false]
    exact p_heldStringS_l xs (k + 1) (by omega) (by omega)
theorem foldM_lenS {α : Type} (f : α → Int → Int × α) : ∀ (xs : List α) (k : Int), (foldM f xs k).2.length = xs.length
  | [], _ => rfl
  | x :: xs, k => by rw [foldM_cons]; simp [foldM_lenS f xs]
theorem p_heldStringS (xs : List (List Int)) (k : Int) (h0 : 0 ≤ k) (h1 : k + xs.length ≤ markTop) : P_laws_heldStringS (markS (.list .str) xs k).2 k = some (markS (.list .str) xs k).1 := by
  rw [P_laws_heldStringS]
  have hl : ((markS (.list .str) xs k).2).length ≤ maxLen := by
    have : ((markS (.list .str) xs k).2).length = xs.length := foldM_lenS (markE .str) xs k
    rw [this]; unfold markTop at h1; unfold maxLen; omega
  rw [lenOk_pos hl]
  exact p_heldStringS_l xs k h0 h1
theorem p_spec_l15AuthorisedS {s : DRoleSet} (hw : wfD (.list TyRole) s.1) (hu : (allUnder s.1).length ≤ 1048576) (hgood : goodRoleSet s = true) {gr : List DRoleGrant} {t : Int} (hl : gr.length ≤ 2000000) (hgw : ∀ g ∈ gr, wfD TyRoleGrant g) (hg : ∀ g ∈ gr, 0 ≤ g.2.2.2.2.1) (u : List Int) :
    ∃ L : List (List Int), L.Pairwise lessP ∧ L.length ≤ 4000000 ∧ (∀ a, a ∈ L ↔ inR s (namesOf gr t u gr) a = true) ∧ (∀ a ∈ L, wfD .str a) ∧ P_spec_l15Authorised s gr u t false = some L := by
  have hnl := names_len gr t u gr
  have hfl : ((namesOf gr t u gr).filter (isRole s.1)).length ≤ (namesOf gr t u gr).length := List.length_filter_le _ _
  obtain ⟨L, l0, l1, l2, l4, l3⟩ := p_spec_l15Under (N := (namesOf gr t u gr).filter (isRole s.1)) hw ⟨by unfold maxLen; show _ ≤ _; omega, fun a ha => names_wf hgw a (List.mem_filter.1 ha).1⟩ (by omega)
  refine ⟨L, l0, l2, fun a => by rw [l1, inR_filter hgood], l4, ?_⟩
  rw [P_spec_l15Authorised, lenOk_pos (by unfold maxLen; omega), p_spec_l15Authorised_l hw.1 (by unfold maxLen; omega) hg u gr [] (fun g h => h) (by simp; omega), List.nil_append, l3]
  rfl
theorem same_Authorised {s : DRoleSet} {st : DRoleState} {u : List Int} {t : Int} (hw : wfD TyRoleSet s) (hst : wfD TyRoleState st) (hs : Ty.size TyRoleSet s ≤ 1048576) (hz : Ty.size TyRoleState st ≤ 1048576) : ∃ L : List (List Int), P_spec_Authorised s st u t = some L ∧ P_impl_Authorised s st u t = some L ∧ L.length ≤ 4000000 ∧ ∀ a ∈ L, wfD .str a := by
  have ws : wfD (.list I64) st.1 ∧ wfD (.list TyRoleGrant) st.2.1 ∧ wfD (.list TyRoleSession) st.2.2.1 ∧ _ := hst
  have hu := under_le hs
  have hw1 : wfD (.list TyRole) s.1 := hw.1
  have z1 : st.2.1.length ≤ 1048576 := by
    have h1 : Ty.size TyRoleState st = Ty.size (.list I64) st.1 + ((st.2.1.length + (st.2.1.map (Ty.size TyRoleGrant)).sum) + ((st.2.2.1.length + (st.2.2.1.map (Ty.size TyRoleSession)).sum) + 0)) := rfl
    omega
  have no : ∃ L : List (List Int), some ([] : List (List Int)) = some L ∧ some ([] : List (List Int)) = some L ∧ L.length ≤ 4000000 ∧ ∀ a ∈ L, wfD .str a := ⟨[], rfl, rfl, by simp, by simp⟩
  rw [P_spec_Authorised, P_impl_Authorised, p_spec_GoodRoleSet hw hu, p_impl_ygoodRoleState hw hu ws.2.1.1 ws.2.2.1.1, p_spec_l15Small ws.2.1.1 ws.2.2.1.1]
  simp only [Option.bind_some]
  cases hg : goodRoleSet s with
  | false => exact no
  | true =>
  cases hd : decide (t < st.2.2.2) with
  | true => cases smallSt st <;> exact no
  | false =>
  cases hsm : smallSt st with
  | false => exact no
  | true =>
  have hdep : ∀ g ∈ st.2.1, 0 ≤ g.2.2.2.2.1 := fun g hg => by
    unfold smallSt at hsm
    simp only [Bool.and_eq_true, List.all_eq_true] at hsm
    have := hsm.1 g hg
    unfold depthOk at this
    simp only [Bool.and_eq_true, decide_eq_true_eq] at this
    exact this.1
  obtain ⟨zs, y1, y2, y3, y4, y5⟩ := p_spec_l15AuthorisedS (t := t) hw1 hu hg (Nat.le_trans z1 (by decide)) ws.2.1.2 hdep u
  obtain ⟨V, v1, v2, v3⟩ := p_impl_yauthorised (t := t) hw1.1 hu (Nat.le_trans z1 (by decide)) hdep u
  have hmap : (V.map fun a => (a, true)).map (·.1) = V := by rw [List.map_map]; simp [Function.comp_def]
  have hm : ∀ a, a ∈ zs ↔ a ∈ V := fun a => by rw [y3, v2]
  have hVl : V.length ≤ 4000000 := Nat.le_trans (nodup_len v1 fun a ha => (hm a).2 ha) y2
  have hk : keysF (v := .bool) (V.map fun a => (a, true)) = some (sortK V) := by
    unfold keysF
    rw [if_pos (by rw [List.length_map]; omega), hmap]
  have hbV : ∀ a ∈ V, bytesL a := fun a ha => wfS_bytes (y4 a ((hm a).2 ha))
  refine ⟨zs, ?_, ?_, y2, y4⟩
  · simp only [Bool.not_true, Bool.not_false, Bool.and_true, Bool.true_and, cond_false, cond_true, y5, Option.bind_some]
  · simp only [Bool.not_true, Bool.not_false, Bool.and_true, Bool.true_and, cond_false, cond_true, v3, Option.bind_some, hk, sortK_eq hbV v1 y1 hm]
theorem law_Authorised (a0 : DRoleSet) (a1 : DRoleState) (a2 : List Int) (a3 : Int) (h0 : wfD TyRoleSet a0) (h1 : wfD TyRoleState a1) (h2 : wfD .str a2) (h3 : wfD I64 a3) : P_laws_FnExactAuthorised a0 a1 a2 a3 = some true := by
  rw [P_laws_FnExactAuthorised]
  cases dd : decide ((1048576 : Int) < (a2.length : Int)) with
  | true => rfl
  | false =>
  rw [szC_some h0 (by omega) (by omega)]
  simp only [Option.bind_some, cond_false]
  cases d0 : decide (lessZ 1048576 (Ty.size TyRoleSet a0) < 0) with
  | true => rfl
  | false =>
  have b0 := bud_of d0
  rw [szC_some h1 b0.2.1 (by omega)]
  simp only [Option.bind_some, cond_false]
  cases d1 : decide (lessZ (lessZ 1048576 (Ty.size TyRoleSet a0)) (Ty.size TyRoleState a1) < 0) with
  | true => rfl
  | false =>
  have b1 := bud_of d1
  obtain ⟨r, s1, s2, s3, s4⟩ := same_Authorised (u := a2) (t := a3) h0 h1 (by omega) (by omega)
  have hr : wfD (.list .str) r := ⟨Nat.le_trans s3 (by decide), s4⟩
  have m1 := slotS_size (t := TyRoleSet) (x := a0) (n := 1048576) (by omega) (by decide)
  have m1' := slotS_size (t := TyRoleState) (x := a1) (n := 1048576) (by omega) (by decide)
  have m2 : slotS (.list .str) r = r.length := slotS_one (t := .str) (fun _ => rfl) r
  have hk0 := markS_fst TyRoleSet a0 1
  have hk1 := markS_fst TyRoleState a1 (markS TyRoleSet a0 1).1
  have hn1 : ¬ (markS TyRoleState a1 (markS TyRoleSet a0 1).1).1 < 0 := by omega
  have hk2 : ¬ (markS (.list .str) r 1).1 < 0 := by rw [markS_fst]; omega
  have hh := p_heldStringS r 1 (by omega) (by unfold markTop; omega)
  simp only [cond_false, toC_some h0 (by omega), toC_some h1 (by omega), Option.bind_some, s1, s2, eqC_some h0, eqC_some h1, eqC_some hr, Bool.not_true,
    markC_some (t := TyRoleSet) (x := a0) (k := 1) (by omega) (by unfold markTop; omega), markC_some (t := TyRoleState) (x := a1) (k := (markS TyRoleSet a0 1).1) (by omega) (by unfold markTop; omega), decide_eq_false hn1]
  rw [P_laws_FnExactAuthorised_1_25]
  simp only [markC_some (t := .list .str) (x := r) (k := 1) (by omega) (by unfold markTop; omega), Option.bind_some, hh, decide_eq_false hk2, cond_false, decide_true, Bool.not_true, toC_some h0 (by omega), toC_some h1 (by omega), s2, eqC_some hr]

end
end Go.Ab
