/-
  Names and texts: what the program's functions come to.
-/
import Derived.Test.YtokoopabnhcheaaGenLeaf
namespace Go.Ab
open Go.Proofs

theorem ok85 : CtrOk Try.prog c85 := mk85 conOf_nil fun a => ⟨0, by
  rw [F85_eq]; unfold isDigit; cases decide (48 ≤ a) <;> rfl⟩
theorem ok105 : CtrOk Try.prog c105 := mk105 conOf_nil fun a => ⟨0, by
  rw [F105_eq]; unfold isDigit; cases decide (48 ≤ a) <;> rfl⟩
theorem ok86 : CtrOk Try.prog c86 := mk86 conOf_nil fun a => ⟨0, by
  rw [F86_eq]; unfold isLetter; cases decide (97 ≤ a) <;> cases decide (a ≤ 122) <;> cases decide (65 ≤ a) <;> rfl⟩
theorem ok108 : CtrOk Try.prog c108 := mk108 conOf_nil fun a => ⟨0, by
  rw [F108_eq]; unfold isLetter; cases decide (97 ≤ a) <;> cases decide (a ≤ 122) <;> cases decide (65 ≤ a) <;> rfl⟩
theorem ok87 : CtrOk Try.prog c87 := mk87 conOf_nil fun a b => ⟨0, by
  rw [F87_eq]; unfold cmpNum; cases decide (a < b) <;> cases decide (b < a) <;> rfl⟩
theorem ok106 : CtrOk Try.prog c106 := mk106 (conOf_cons ok108 (conOf_cons ok105 conOf_nil)) fun a => ⟨0, by
  rw [F106_eq]; unfold isWord; cases isLetter a <;> cases isDigit a <;> rfl⟩

theorem decide_lt_one (n : Nat) : decide ((n : Int) < 1) = !decide (1 ≤ n) := by
  by_cases h : 1 ≤ n
  · rw [decide_eq_true h, decide_eq_false (by omega)]; rfl
  · rw [decide_eq_false h, decide_eq_true (by omega)]; rfl
theorem decide_big (k n : Nat) : decide ((k : Int) < (n : Int)) = !decide (n ≤ k) := by
  by_cases h : n ≤ k
  · rw [decide_eq_true h, decide_eq_false (by omega)]; rfl
  · rw [decide_eq_false h, decide_eq_true (by omega)]; rfl

theorem inB_nat {k n : Nat} (h : k < n) : inB (k : Int) n = true := inB_iff.2 (by omega)

theorem ok61 : CtrOk Try.prog c61 := mk61 (conOf_cons ok85 (conOf_cons ok86 conOf_nil)) fun a hw => by
  have hl := wfD_len hw.1
  refine Ev.get ?_
  have hloop : Ev (fun n => L61_0_4 n a 0) (a.all isWord && true) := by
    refine all_ev (d := 0) (fin := fun _ => some true) hl
      (body := fun _ x i K => bif !(isLetter x) then (bif inB i a.length then (bif !(isDigit x) then (bif inB i a.length then (bif !decide (x = 95) then some false else K) else none) else K) else none) else K)
      (fun n i => L61_0_4_eq n a i) (.const rfl) ?_
    intro k x hk _ K r hK
    simp only [inB_nat hk, cond_true]
    unfold isWord
    cases isLetter x <;> cases isDigit x <;> cases decide (x = 95) <;> first | exact hK | exact .const rfl
  refine Ev.of_eq ?_ (fun n => F61_eq n a)
  unfold goodName
  rw [decide_lt_one, show (30 : Int) = ((30 : Nat) : Int) from rfl, decide_big]
  cases h1 : decide (1 ≤ a.length) with
  | false => exact .const rfl
  | true =>
    cases h2 : decide (a.length ≤ 30) with
    | false => exact .const rfl
    | true =>
      have h1 := of_decide_eq_true h1
      refine Ev.neg rfl (Ev.neg rfl (Ev.pos (inB_iff.2 (by omega)) ?_))
      cases h3 : isDigit (rd a 0 0) with
      | true => exact .const rfl
      | false => simpa using hloop

theorem decide_nil (a : List Int) : decide (a = ([] : List Int)) = !decide (1 ≤ a.length) := by
  cases a with
  | nil => rfl
  | cons x a => simp

theorem ok93 : CtrOk Try.prog c93 := mk93 (conOf_cons ok105 (conOf_cons ok106 conOf_nil)) fun a hw => by
  have hl := wfD_len hw.1
  refine Ev.get ?_
  have hloop : Ev (fun n => L93_0_4 n a (a.length : Int) 0) (a.all isWord && true) := by
    refine all_ev (d := 0) (fin := fun _ => some true) (L := fun n i => L93_0_4 n a (a.length : Int) i) hl
      (body := fun _ x _ K => bif !(isWord x) then some false else K)
      (fun n i => L93_0_4_eq n a _ i) (.const rfl) ?_
    intro k x hk _ K r hK
    cases isWord x <;> first | exact hK | exact .const rfl
  refine Ev.of_eq ?_ (fun n => F93_eq n a)
  unfold goodName
  rw [decide_nil, show (30 : Int) = ((30 : Nat) : Int) from rfl, decide_big]
  cases h1 : decide (1 ≤ a.length) with
  | false => exact .const rfl
  | true =>
    cases h2 : decide (a.length ≤ 30) with
    | false => exact .const rfl
    | true =>
      have h1 := of_decide_eq_true h1
      refine Ev.neg rfl (Ev.neg rfl (Ev.pos (inB_iff.2 (by omega)) ?_))
      cases h3 : isDigit (rd a 0 0) with
      | true => exact .const rfl
      | false => simpa using hloop

theorem decide_not_print (x : Int) : (bif decide (x < 32) then false else !decide ((126 : Int) < x)) = isPrint x := by
  unfold isPrint
  by_cases h : 32 ≤ x
  · rw [decide_eq_false (by omega), decide_eq_true h]
    by_cases h2 : x ≤ 126
    · rw [decide_eq_false (by omega), decide_eq_true h2]; rfl
    · rw [decide_eq_true (by omega), decide_eq_false h2]; rfl
  · rw [decide_eq_true (by omega), decide_eq_false h]; rfl

theorem ok64 : CtrOk Try.prog c64 := mk64 conOf_nil fun a hw => by
  have hl := wfD_len hw.1
  refine Ev.get (Ev.of_eq ?_ (fun n => F64_eq n a))
  have := all_ev (xs := a) (d := 0) (fin := fun _ => some true) (b := true) (p := isPrint) (L := fun n i => L64_0_2 n a i) hl
      (body := fun _ x i K => bif decide (x < 32) then some false else bif inB i a.length then (bif decide ((126 : Int) < x) then some false else K) else none)
      (fun n i => L64_0_2_eq n a i) (.const rfl) (by
    intro k x hk _ K r hK
    simp only [inB_nat hk, cond_true]
    rw [← decide_not_print]
    cases decide (x < 32) <;> cases decide ((126 : Int) < x) <;> first | exact hK | exact .const rfl)
  simpa [printed] using this

theorem ok95 : CtrOk Try.prog c95 := mk95 conOf_nil fun a lo hi hw => by
  have hl := wfD_len hw.1
  refine Ev.get (Ev.of_eq ?_ (fun n => F95_eq n a lo hi))
  have := all_ev (xs := a) (d := 0) (fin := fun _ => some true) (b := true) (p := isPrint) (L := fun n i => L95_0_4 n a (a.length : Int) i) hl
      (body := fun _ x i K => bif decide (x < 32) then some false else bif inB i a.length then (bif decide ((126 : Int) < x) then some false else K) else none)
      (fun n i => L95_0_4_eq n a _ i) (.const rfl) (by
    intro k x hk _ K r hK
    simp only [inB_nat hk, cond_true]
    rw [← decide_not_print]
    cases decide (x < 32) <;> cases decide ((126 : Int) < x) <;> first | exact hK | exact .const rfl)
  unfold printedIn
  cases decide ((a.length : Int) < lo) <;> cases decide (hi < (a.length : Int)) <;> first | (exact .const rfl) | simpa using this

theorem cmpNum_shift (a b k : Int) : cmpNum (a - k) (b - k) = cmpNum a b := by
  unfold cmpNum
  rw [show decide (a - k < b - k) = decide (a < b) from decide_eq_decide.2 (by omega), show decide (b - k < a - k) = decide (b < a) from decide_eq_decide.2 (by omega)]

theorem wrap_byte {x : Int} (h : 0 ≤ x ∧ x ≤ 255) : IntKind.wrap .i64 x = x := wrap64 (by omega)

theorem ok62 : CtrOk Try.prog c62 := mk62 (conOf_cons ok87 conOf_nil) fun a b hw => by
  have hla := wfD_len hw.1
  have hlb := wfD_len hw.2.1
  have hba : ∀ x ∈ a, 0 ≤ x ∧ x ≤ 255 := fun x hx => by have := hw.1.2 x hx; rw [inK_iff, min_u8, max_u8] at this; exact this
  have hbb : ∀ x ∈ b, 0 ≤ x ∧ x ≤ 255 := fun x hx => by have := hw.2.1.2 x hx; rw [inK_iff, min_u8, max_u8] at this; exact this
  refine Ev.get (Ev.of_eq ?_ (fun n => F62_eq n a b))
  have gen : ∀ (m k : Nat), k + m = a.length → k ≤ b.length → Ev (fun n => L62_0_2 n a b (k : Int)) (cmpText (a.drop k) (b.drop k)) := by
    intro m
    induction m with
    | zero =>
      intro k hk hkb
      refine Ev.succ (Ev.of_eq ?_ (fun n => L62_0_2_eq n a b k))
      refine Ev.neg (decide_eq_false (by omega)) (.const ?_)
      rw [List.drop_eq_nil_of_le (by omega : a.length ≤ k)]
      have : cmpText [] (b.drop k) = cmpNum 0 ((b.drop k).length : Int) := by cases b.drop k <;> rfl
      rw [this, List.length_drop, ← cmpNum_shift (a.length : Int) _ (k : Int)]
      congr 1 <;> omega
    | succ m ih =>
      intro k hk hkb
      have hka : k < a.length := by omega
      refine Ev.succ (Ev.of_eq ?_ (fun n => L62_0_2_eq n a b k))
      refine Ev.pos (decide_eq_true (by omega)) ?_
      rcases Nat.lt_or_ge k b.length with hkb' | hkb'
      · have ea := List.getElem?_eq_getElem hka
        have eb := List.getElem?_eq_getElem hkb'
        refine Ev.pos (decide_eq_true (by omega)) (Ev.pos (inB_nat hka) (Ev.pos (inB_nat hkb') ?_))
        rw [rd_nat ea, rd_nat eb, List.drop_eq_getElem_cons hka, List.drop_eq_getElem_cons hkb']
        rw [wrap_byte (hba _ (List.getElem_mem hka)), wrap_byte (hbb _ (List.getElem_mem hkb')), wrap_succ hla hka]
        show Ev _ (bif decide (a[k] = b[k]) then cmpText (a.drop (k + 1)) (b.drop (k + 1)) else cmpNum a[k] b[k])
        cases decide (a[k] = b[k]) with
        | true => exact ih (k + 1) (by omega) hkb'
        | false => exact Ev.pos rfl (Ev.pos (inB_nat hka) (Ev.pos (inB_nat hkb') (.const rfl)))
      · refine Ev.neg (decide_eq_false (by omega)) (.const ?_)
        have hkb2 : k = b.length := by omega
        rw [List.drop_eq_nil_of_le (by omega : b.length ≤ k)]
        have : cmpText (a.drop k) [] = cmpNum ((a.drop k).length : Int) 0 := by cases a.drop k <;> rfl
        rw [this, List.length_drop, ← cmpNum_shift (a.length : Int) _ (k : Int)]
        congr 1 <;> omega
  exact gen a.length 0 (by omega) (by omega)

/-- The order of neighbours, from an element on. -/
def risingFrom : Option (List Int) → List (List Int) → Bool
  | _, [] => true
  | none, b :: r => risingFrom (some b) r
  | some a, b :: r => lessI a b && risingFrom (some b) r

theorem rising_from : ∀ (l : List (List Int)) (a : List Int), rising (a :: l) = risingFrom (some a) l
  | [], _ => rfl
  | b :: r, a => by
    show (lessI a b && rising (b :: r)) = _
    rw [rising_from r b]; rfl

theorem rising_none (l : List (List Int)) : rising l = risingFrom none l := by
  cases l with
  | nil => rfl
  | cons a l => exact rising_from l a

theorem ok94 : CtrOk Try.prog c94 := mk94 conOf_nil fun l hw => by
  have hl := (wfD_list (t := .str) hw.1).1
  refine Ev.get (Ev.of_eq ?_ (fun n => F94_eq n l))
  have gen : ∀ (m k : Nat), k + m = l.length → Ev (fun n => L94_0_2 n l l (l.length : Int) (k : Int)) (risingFrom (if k = 0 then none else l[k - 1]?) (l.drop k)) := by
    intro m
    induction m with
    | zero =>
      intro k hk
      refine Ev.succ (Ev.of_eq ?_ (fun n => L94_0_2_eq n l l _ k))
      refine Ev.neg (decide_eq_false (by omega)) (.const ?_)
      rw [List.drop_eq_nil_of_le (by omega)]
      cases (if k = 0 then none else l[k - 1]?) <;> rfl
    | succ m ih =>
      intro k hk
      have hkl : k < l.length := by omega
      have e := List.getElem?_eq_getElem hkl
      have hi := ih (k + 1) (by omega)
      rw [if_neg (by omega), Nat.add_sub_cancel, e] at hi
      refine Ev.succ (Ev.of_eq ?_ (fun n => L94_0_2_eq n l l _ k))
      refine Ev.pos (decide_eq_true (by omega)) (Ev.pos (inB_nat hkl) ?_)
      rw [rd_nat e, List.drop_eq_getElem_cons hkl, wrap_succ hl hkl]
      cases k with
      | zero => exact Ev.neg (decide_eq_false (by omega)) hi
      | succ k =>
        have e' := List.getElem?_eq_getElem (show k < l.length by omega)
        refine Ev.pos (decide_eq_true (by omega)) ?_
        rw [wrap_pred hl (show k < l.length by omega), rd_nat e', if_neg (by omega), Nat.add_sub_cancel, e']
        refine Ev.pos (inB_nat (by omega)) ?_
        show Ev _ (lessI l[k] l[k + 1] && risingFrom (some l[k + 1]) (l.drop (k + 1 + 1)))
        cases lessI l[k] l[k + 1] with
        | false => exact .const rfl
        | true => exact hi
  rw [rising_none]
  exact gen l.length 0 (by omega)

theorem ok63 : CtrOk Try.prog c63 := mk63 (conOf_cons ok62 conOf_nil) fun l hw => by
  have hl := (wfD_list (t := .str) hw.1).1
  have hx := (wfD_list (t := .str) hw.1).2
  refine Ev.get (Ev.of_eq ?_ (fun n => F63_eq n l))
  have gen : ∀ (m k : Nat), k + 1 + m = l.length → Ev (fun n => L63_0_2 n l ((k + 1 : Nat) : Int)) (risingFrom l[k]? (l.drop (k + 1))) := by
    intro m
    induction m with
    | zero =>
      intro k hk
      refine Ev.succ (Ev.of_eq ?_ (fun n => L63_0_2_eq n l _))
      refine Ev.neg (decide_eq_false (by omega)) (.const ?_)
      rw [List.drop_eq_nil_of_le (by omega)]
      cases l[k]? <;> rfl
    | succ m ih =>
      intro k hk
      have hkl : k + 1 < l.length := by omega
      have e := List.getElem?_eq_getElem hkl
      have e' := List.getElem?_eq_getElem (show k < l.length by omega)
      have hi := ih (k + 1) (by omega)
      rw [e] at hi
      refine Ev.succ (Ev.of_eq ?_ (fun n => L63_0_2_eq n l _))
      refine Ev.pos (decide_eq_true (by omega)) ?_
      rw [wrap_pred hl (show k < l.length by omega), rd_nat e, rd_nat e', List.drop_eq_getElem_cons hkl, wrap_succ hl hkl, e']
      refine Ev.pos (inB_nat (by omega)) (Ev.pos (inB_nat hkl) (Ev.need ⟨hx _ (List.getElem_mem _), hx _ (List.getElem_mem _), trivial⟩ ?_))
      rw [cmpText_less]
      show Ev _ (lessI l[k] l[k + 1] && risingFrom (some l[k + 1]) (l.drop (k + 1 + 1)))
      cases lessI l[k] l[k + 1] with
      | false => exact .const rfl
      | true => exact hi
  rw [rising_none]
  cases l with
  | nil =>
    refine Ev.succ (Ev.of_eq ?_ (fun n => L63_0_2_eq n [] _))
    exact Ev.neg rfl (.const rfl)
  | cons a l =>
    have := gen l.length 0 (by simp; omega)
    exact this

end Go.Ab
