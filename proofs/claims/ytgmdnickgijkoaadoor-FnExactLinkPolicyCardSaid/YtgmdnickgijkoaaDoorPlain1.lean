/-
  Plain functions and small lemmas: names, texts, atoms, values; what stands ahead in a list.
-/
import Derived.Test.YtgmdnickgijkoaaDoorAb23
namespace Go.Ab

def isDigit (c : Int) : Bool := decide (48 ≤ c) && decide (c ≤ 57)
def isLetter (c : Int) : Bool := (decide (97 ≤ c) && decide (c ≤ 122)) || (decide (65 ≤ c) && decide (c ≤ 90))
def isWord (c : Int) : Bool := isLetter c || isDigit c || decide (c = 95)
def isPrint (c : Int) : Bool := decide (32 ≤ c) && decide (c ≤ 126)
def cmpNum (a b : Int) : Int := bif decide (a < b) then -1 else bif decide (b < a) then 1 else 0
def goodName (s : List Int) : Bool := decide (1 ≤ s.length) && decide (s.length ≤ 30) && !(isDigit (rd s 0 0)) && s.all isWord
def printed (s : List Int) : Bool := s.all isPrint
def printedIn (s : List Int) (least most : Int) : Bool := !decide ((s.length : Int) < least) && !decide (most < (s.length : Int)) && s.all isPrint
def cmpText : List Int → List Int → Int
  | x :: a, y :: b => bif decide (x = y) then cmpText a b else cmpNum x y
  | a, b => cmpNum a.length b.length
theorem cmpText_nil (l : List Int) : cmpText [] l = cmpNum 0 l.length := by cases l <;> rfl
theorem cmpText_nil2 (l : List Int) : cmpText l [] = cmpNum l.length 0 := by cases l <;> rfl
def cmpStr (a b : List Int) : Int := bif lessI a b then -1 else bif lessI b a then 1 else 0

/-- Bytes. -/
def bytesL (s : List Int) : Prop := ∀ b ∈ s, 0 ≤ b ∧ b ≤ 255
theorem bytesL.tail {x : Int} {s : List Int} (h : bytesL (x :: s)) : bytesL s := fun b hb => h b (by simp [hb])
theorem bytesL.head {x : Int} {s : List Int} (h : bytesL (x :: s)) : 0 ≤ x ∧ x ≤ 255 := h x (by simp)
theorem wfS_bytes {s : List Int} (h : wfD .str s) : bytesL s := fun b hb => by have := h.2 b hb; rw [inK_iff, min_u8, max_u8] at this; exact this
theorem wfS_len {s : List Int} (h : wfD .str s) : s.length ≤ maxLen := wfD_len h

theorem cmpText_str : ∀ (a b : List Int), cmpText a b = cmpStr a b
  | [], [] => rfl
  | [], y :: b => by simp only [cmpText, cmpStr, lessI, cmpNum]; grind
  | x :: a, [] => by simp only [cmpText, cmpStr, lessI, cmpNum]; grind
  | x :: a, y :: b => by
    have ih := cmpText_str a b
    unfold cmpText cmpStr lessI
    by_cases h : x = y
    · subst h
      simp [ih, cmpStr]
    · simp [h, cmpNum]
      grind

theorem cmpStr_ge (a b : List Int) : decide (0 ≤ cmpStr a b) = !lessI a b := by unfold cmpStr; grind

theorem wrapU {x : Int} (h : -9223372036854775808 ≤ x ∧ x ≤ 9223372036854775807) : IntKind.wrap .i64 x = x := wrap64 h
theorem wrap8 {x : Int} (h : 0 ≤ x ∧ x ≤ 255) : IntKind.wrap .u8 x = x := by
  unfold IntKind.wrap
  simp [IntKind.signed, IntKind.bits]
  omega

theorem nat0 (k : Nat) : decide ((0 : Int) ≤ (k : Int)) = true := decide_eq_true (by omega)
/-! Tests as branches. -/
theorem and_c (a b : Bool) : (a && b) = bif a then b else false := by cases a <;> rfl
theorem or_c (a b : Bool) : (a || b) = bif a then true else b := by cases a <;> rfl
theorem some_cond {α : Type} (c : Bool) (a b : α) : some (bif c then a else b) = bif c then some a else some b := by cases c <;> rfl
theorem some_dec (p : Prop) [Decidable p] : some (decide p) = bif decide p then some true else some false := by cases decide p <;> rfl
theorem some_not (c : Bool) : some (!c) = bif c then some false else some true := by cases c <;> rfl
/-- What stands ahead of the k-th element. -/
def before {α : Type} (xs : List α) (k : Nat) : Option α := if k = 0 then none else xs[k - 1]?
theorem before_zero {α : Type} (xs : List α) : before xs 0 = none := rfl
theorem step_prev {α : Type} {xs rest : List α} {e d : α} {k : Nat} (hl : xs.length ≤ maxLen) (h : e :: rest = xs.drop k) :
    rest = xs.drop (k + 1) ∧ before xs (k + 1) = some e ∧ k < xs.length ∧ e ∈ xs ∧
      (k = 0 ∨ (0 < k ∧ inB (IntKind.wrap .i64 ((k : Int) - 1)) xs.length = true ∧ before xs k = some (rd xs (IntKind.wrap .i64 ((k : Int) - 1)) d) ∧ rd xs (IntKind.wrap .i64 ((k : Int) - 1)) d ∈ xs)) := by
  obtain ⟨hk, hx, hr⟩ := drop_cons (d := d) h
  have e1 : xs[k]? = some e := by rw [List.getElem?_eq_getElem hk]; rw [rd_nat (List.getElem?_eq_getElem hk)] at hx; rw [hx]
  refine ⟨hr, ?_, hk, List.mem_of_getElem? e1, ?_⟩
  · unfold before; rw [if_neg (by omega), Nat.add_sub_cancel]; exact e1
  · rcases Nat.eq_zero_or_pos k with h0 | h0
    · exact .inl h0
    · right
      obtain ⟨j, rfl⟩ : ∃ j, k = j + 1 := ⟨k - 1, by omega⟩
      have hw : IntKind.wrap .i64 (((j + 1 : Nat) : Int) - 1) = (j : Int) := wrap_pred hl (by omega)
      have hj := List.getElem?_eq_getElem (show j < xs.length by omega)
      rw [hw]
      refine ⟨h0, inB_nat2 (by omega), ?_, ?_⟩
      · unfold before; rw [if_neg (by omega), Nat.add_sub_cancel, rd_nat hj]; exact hj
      · rw [rd_nat hj]; exact List.getElem_mem _

/-- Each is less than the next, by a test. -/
def risingFrom {α : Type} (lt : α → α → Bool) : Option α → List α → Bool
  | _, [] => true
  | none, x :: r => risingFrom lt (some x) r
  | some p, x :: r => lt p x && risingFrom lt (some x) r
def risingBy {α : Type} (lt : α → α → Bool) (l : List α) : Bool := risingFrom lt none l
theorem risingFrom_nil {α : Type} (lt : α → α → Bool) (p : Option α) : risingFrom lt p [] = true := by cases p <;> rfl
theorem risingFrom_cons {α : Type} (lt : α → α → Bool) (p : Option α) (x : α) (r : List α) : risingFrom lt p (x :: r) = ((match p with | none => true | some q => lt q x) && risingFrom lt (some x) r) := by
  cases p <;> simp [risingFrom]

/-- A guard of Go's text, and its meaning: a list with a further test for each element. -/
theorem all_and {α : Type} (p q : α → Bool) : ∀ l : List α, (l.all p && l.all q) = l.all fun x => p x && q x
  | [] => rfl
  | x :: l => by simp only [List.all_cons, ← all_and p q l]; cases p x <;> cases q x <;> simp

abbrev Atm : Type := Int × Int × List Int × List Int
def pow2 (n : Int) : Int := 2 ^ n.toNat
def goodAtom (a : Atm) : Bool :=
  let bare := decide (a.2.2.1 = []) && decide (a.2.2.2 = [])
  bif decide (a.1 = 1) then bare && (decide (a.2.1 = 0) || decide (a.2.1 = 1))
  else bif decide (a.1 = 2) then bare
  else bif decide (a.1 = 3) then decide (a.2.1 = 0) && decide (a.2.2.2 = []) && printedIn a.2.2.1 0 200
  else bif decide (a.1 = 4) then decide (a.2.1 = 0) && goodName a.2.2.2 && printedIn a.2.2.1 1 200
  else bif decide (a.1 = 5) then bare
  else bif decide (a.1 = 6) then bare && decide (0 ≤ a.2.1) && decide (a.2.1.tmod 64 ≤ 32) && decide (a.2.1.tdiv 64 < 4294967296) && decide ((a.2.1.tdiv 64).tmod (pow2 (32 - a.2.1.tmod 64)) = 0)
  else bif decide (a.1 = 7) then bare && decide (-100000000000 ≤ a.2.1) && decide (a.2.1 ≤ 100000000000)
  else false
def lessAtom (a b : Atm) : Bool :=
  decide (a.1 < b.1) || (decide (a.1 = b.1) && (decide (a.2.1 < b.2.1) || (decide (a.2.1 = b.2.1) && (lessI a.2.2.2 b.2.2.2 || (decide (a.2.2.2 = b.2.2.2) && lessI a.2.2.1 b.2.2.1)))))
def cmpAtom (a b : Atm) : Int :=
  bif !decide (cmpNum a.1 b.1 = 0) then cmpNum a.1 b.1 else bif !decide (cmpNum a.2.1 b.2.1 = 0) then cmpNum a.2.1 b.2.1 else
  bif !decide (cmpStr a.2.2.2 b.2.2.2 = 0) then cmpStr a.2.2.2 b.2.2.2 else cmpStr a.2.2.1 b.2.2.1
theorem lessI_irrefl : ∀ a : List Int, lessI a a = false
  | [] => rfl
  | x :: a => by simp [lessI, lessI_irrefl a]
theorem lessI_total : ∀ a b : List Int, a ≠ b → lessI a b = false → lessI b a = true
  | [], [], h, _ => absurd rfl h
  | [], y :: b, _, h => by simp [lessI] at h
  | x :: a, [], _, _ => rfl
  | x :: a, y :: b, h, h2 => by
    have ih := lessI_total a b
    simp only [lessI] at h2 ⊢
    grind
theorem lessI_asymm : ∀ a b : List Int, lessI a b = true → lessI b a = false
  | [], [], h => by simp [lessI] at h
  | [], y :: b, _ => rfl
  | x :: a, [], h => by simp [lessI] at h
  | x :: a, y :: b, h => by
    have ih := lessI_asymm a b
    simp only [lessI] at h ⊢
    grind
theorem lessI_trans : ∀ a b c : List Int, lessI a b = true → lessI b c = true → lessI a c = true
  | [], _, [], h, h2 => by cases ‹List Int› <;> simp [lessI] at h h2
  | [], _, z :: c, _, _ => rfl
  | x :: a, [], c, h, _ => by simp [lessI] at h
  | x :: a, y :: b, [], _, h2 => by simp [lessI] at h2
  | x :: a, y :: b, z :: c, h, h2 => by
    have ih := lessI_trans a b c
    simp only [lessI] at h h2 ⊢
    grind
theorem cmpStr_zero (a b : List Int) : decide (cmpStr a b = 0) = decide (a = b) := by
  unfold cmpStr
  by_cases h : a = b
  · subst h; simp [lessI_irrefl]
  · cases h1 : lessI a b with
    | true => simp [h]
    | false => simp [lessI_total a b h h1, h]
theorem cmpAtom_ge (a b : Atm) : decide (0 ≤ cmpAtom a b) = !lessAtom a b := by
  have h := cmpStr_zero a.2.2.2 b.2.2.2
  have h1 := cmpStr_ge a.2.2.2 b.2.2.2
  have h2 := cmpStr_ge a.2.2.1 b.2.2.1
  unfold cmpAtom lessAtom cmpNum
  grind

abbrev Val : Type := Int × Atm × List Atm × List (List Int)
def goodValue (v : Val) : Bool :=
  bif decide (v.1 = 1) then goodAtom v.2.1 && decide (v.2.2.1.length = 0) && decide (v.2.2.2.length = 0)
  else bif decide (v.1 = 2) then decide (v.2.1 = (0, 0, [], [])) && decide (v.2.2.1.length ≤ 50) && decide (v.2.2.2.length = 0) && (v.2.2.1.all goodAtom && risingBy lessAtom v.2.2.1)
  else bif decide (v.1 = 3) then decide (v.2.1 = (0, 0, [], [])) && decide (v.2.2.1.length ≤ 50) && decide (v.2.2.2.length = v.2.2.1.length) && v.2.2.2.all goodName && risingBy lessI v.2.2.2 && v.2.2.1.all goodAtom
  else false

abbrev Req : Type := Atm × Atm × Atm × List (List Int) × List Val
def goodFields (n : List (List Int)) (v : List Val) : Bool :=
  decide (n.length ≤ 20) && decide (v.length = n.length) && n.all goodName && risingBy lessI n && v.all fun v => !decide (v.1 = 3) && goodValue v
def goodRef (a : Atm) : Bool := decide (a.1 = 4) && goodAtom a
def goodRequest (r : Req) : Bool := goodRef r.1 && goodRef r.2.1 && goodRef r.2.2.1 && goodFields r.2.2.2.1 r.2.2.2.2

abbrev Thg : Type := Atm × List Atm × List (List Int) × List Val
def goodRefs (l : List Atm) : Bool := l.all goodRef && risingBy lessAtom l
def goodThing (t : Thg) : Bool := goodRef t.1 && decide (t.2.1.length ≤ 50) && goodRefs t.2.1 && goodFields t.2.2.1 t.2.2.2
def goodThings (l : List Thg) : Bool := decide (l.length ≤ 100) && (l.all goodThing && risingBy (fun a b => lessAtom a.1 b.1) l)

/-- A datum that was measured is not great. -/
theorem size_of {n : Nat} (h : decide (lessZ 1048576 n < 0) = false) : n ≤ 1073741824 := by
  have hd := of_decide_eq_false h
  unfold lessZ at hd
  split at hd <;> omega
/-- What a measured datum leaves. -/
theorem bud_of {left : Int} {n : Nat} (h : decide (lessZ left n < 0) = false) : (n : Int) ≤ left ∧ 0 ≤ lessZ left n ∧ lessZ left n ≤ left := by
  have hd := of_decide_eq_false h
  unfold lessZ at hd ⊢
  split at hd
  · rename_i h1; rw [if_pos h1]; omega
  · omega
theorem cmpAtom_eq {a b : Atm} (h : cmpAtom a b = 0) : a = b := by
  have h1 := cmpStr_zero a.2.2.2 b.2.2.2
  have h2 := cmpStr_zero a.2.2.1 b.2.2.1
  obtain ⟨a1, a2, a3, a4⟩ := a
  obtain ⟨b1, b2, b3, b4⟩ := b
  simp only [decide_eq_decide] at h1 h2
  unfold cmpAtom cmpNum at h
  dsimp only at h h1 h2
  grind
/-! Sets of keys. -/
theorem getM_tt (k : Ty) (e : k.den) : ∀ (xs : List k.den), getM k (xs.map fun a => (a, true)) e false = true ↔ e ∈ xs
  | [] => by simp [getM]
  | x :: xs => by
    have ih := getM_tt k e xs
    rw [List.map_cons, getM]
    by_cases h : e = x
    · subst h; simp
    · simp only [h, decide_false, cond_false, List.mem_cons, false_or]; exact ih
theorem setM_tt (k : Ty) (e : k.den) : ∀ (xs : List k.den), e ∉ xs → setM k (xs.map fun a => (a, true)) e true = (xs ++ [e]).map fun a => (a, true)
  | [], _ => rfl
  | x :: xs, h => by
    have h1 : ¬ e = x := fun q => h (by simp [q])
    rw [List.map_cons, setM, setM_tt k e xs (fun q => h (by simp [q]))]
    simp [h1]
theorem nodup_len {α : Type} [DecidableEq α] : ∀ {S D : List α}, S.Nodup → (∀ x ∈ S, x ∈ D) → S.length ≤ D.length
  | [], D, _, _ => Nat.zero_le _
  | x :: S, D, hn, hs => by
    rw [List.nodup_cons] at hn
    have h1 := nodup_len (D := D.erase x) hn.2 (fun y hy => (List.mem_erase_of_ne (fun e => by subst e; exact hn.1 hy)).2 (hs y (by simp [hy])))
    have h2 := List.length_erase_of_mem (hs x (by simp))
    have h3 : 0 < D.length := List.length_pos_of_mem (hs x (by simp))
    rw [List.length_cons]; omega
/-- What is added where it isn't yet. -/
def addN {α : Type} [DecidableEq α] (acc : List α) : List α → List α
  | [] => acc
  | e :: r => addN (if e ∈ acc then acc else acc ++ [e]) r
theorem addN_ext {α : Type} [DecidableEq α] : ∀ (l acc : List α), ∃ ext, addN acc l = acc ++ ext ∧ ext.Nodup ∧ (∀ a ∈ ext, a ∈ l ∧ a ∉ acc) ∧ ∀ a ∈ l, a ∈ acc ++ ext
  | [], acc => ⟨[], by simp [addN], by simp, by simp, by simp⟩
  | e :: r, acc => by
    rw [addN]
    by_cases h : e ∈ acc
    · rw [if_pos h]
      obtain ⟨ext, h1, h2, h3, h4⟩ := addN_ext r acc
      refine ⟨ext, h1, h2, fun a ha => ⟨by simp [(h3 a ha).1], (h3 a ha).2⟩, fun a ha => ?_⟩
      rcases List.mem_cons.1 ha with rfl | ha
      · simp [h]
      · exact h4 a ha
    · rw [if_neg h]
      obtain ⟨ext, h1, h2, h3, h4⟩ := addN_ext r (acc ++ [e])
      refine ⟨e :: ext, by rw [h1]; simp, ?_, fun a ha => ?_, fun a ha => ?_⟩
      · rw [List.nodup_cons]; exact ⟨fun q => (h3 e q).2 (by simp), h2⟩
      · rcases List.mem_cons.1 ha with rfl | ha
        · exact ⟨by simp, h⟩
        · obtain ⟨q1, q2⟩ := h3 a ha
          exact ⟨by simp [q1], fun q => q2 (by simp [q])⟩
      · rcases List.mem_cons.1 ha with rfl | ha
        · simp
        · have := h4 a ha; simp at this ⊢; exact this
/-- Lists of texts that rise: two with the same members are one. -/
abbrev lessP (a b : List Int) : Prop := lessI a b = true
theorem sorted_eq : ∀ {a b : List (List Int)}, a.Pairwise lessP → b.Pairwise lessP → (∀ x, x ∈ a ↔ x ∈ b) → a = b
  | [], [], _, _, _ => rfl
  | [], y :: b, _, _, h => by have := (h y).2 (by simp); cases this
  | x :: a, [], _, _, h => by have := (h x).1 (by simp); cases this
  | x :: a, y :: b, ha, hb, h => by
    rw [List.pairwise_cons] at ha hb
    have e : x = y := by
      have h1 := (h x).1 (by simp)
      have h2 := (h y).2 (by simp)
      rcases List.mem_cons.1 h1 with h1 | h1
      · exact h1
      · rcases List.mem_cons.1 h2 with h2 | h2
        · exact h2.symm
        · have q1 : lessI y x = true := hb.1 x h1
          have q2 : lessI x y = true := ha.1 y h2
          rw [lessI_asymm _ _ q1] at q2; cases q2
    subst e
    have nx : ∀ {l : List (List Int)}, (∀ z ∈ l, lessP x z) → x ∉ l := fun hl q => by
      have := hl x q
      have h0 := lessI_irrefl x
      unfold lessP at this
      rw [h0] at this; cases this
    rw [sorted_eq ha.2 hb.2 fun z => ?_]
    have hz := h z
    constructor
    · intro q
      rcases List.mem_cons.1 (hz.1 (by simp [q])) with rfl | q2
      · exact absurd q (nx ha.1)
      · exact q2
    · intro q
      rcases List.mem_cons.1 (hz.2 (by simp [q])) with rfl | q2
      · exact absurd q (nx hb.1)
      · exact q2

end Go.Ab
