import Derived.Test.YtgmdnickgijkoaaGreatDoorAb23
namespace Go.Ab
def Qka (c : Int) : Bool := decide (48 ≤ c) && decide (c ≤ 57)
def Qh9 (c : Int) : Bool := (decide (97 ≤ c) && decide (c ≤ 122)) || (decide (65 ≤ c) && decide (c ≤ 90))
def QqQ (c : Int) : Bool := Qh9 c || Qka c || decide (c = 95)
def Qyw (c : Int) : Bool := decide (32 ≤ c) && decide (c ≤ 126)
def Xw (a b : Int) : Int := bif decide (a < b) then -1 else bif decide (b < a) then 1 else 0
def Gy (s : List Int) : Bool := decide (1 ≤ s.length) && decide (s.length ≤ 30) && !(Qka (rd s 0 0)) && s.all QqQ
def Qcw (s : List Int) : Bool := s.all Qyw
def Qbp (s : List Int) (least most : Int) : Bool := !decide ((s.length : Int) < least) && !decide (most < (s.length : Int)) && s.all Qyw
def QeP : List Int → List Int → Int
 | x :: a, y :: b => bif decide (x = y) then QeP a b else Xw x y
 | a, b => Xw a.length b.length
theorem QCM (l : List Int) : QeP [] l = Xw 0 l.length := by cases l <;> rfl
theorem QBV (l : List Int) : QeP l [] = Xw l.length 0 := by cases l <;> rfl
def WK (a b : List Int) : Int := bif Jn a b then -1 else bif Jn b a then 1 else 0
def bytesL (s : List Int) : Prop := ∀ b ∈ s, 0 ≤ b ∧ b ≤ 255
theorem bytesL.tail {x : Int} {s : List Int} (h : bytesL (x :: s)) : bytesL s := fun b hb => h b (by simp [hb])
theorem QA9 {s : List Int} (h : wfD .str s) : bytesL s := fun b hb => by have := h.2 b hb; rw [Y1, Qqy, Qqz] at this; exact this
theorem GS {s : List Int} (h : wfD .str s) : s.length ≤ maxLen := QF5 h
theorem QwU : ∀ (a b : List Int), QeP a b = WK a b
 | [], [] => rfl
 | [], y :: b => by simp only [QeP, WK, Jn, Xw]; grind
 | x :: a, [] => by simp only [QeP, WK, Jn, Xw]; grind
 | x :: a, y :: b => by
  have ih := QwU a b
  unfold QeP WK Jn
  by_cases h : x = y
  ·subst h
   simp [ih, WK]
  ·simp [h, Xw]
   grind
theorem Qia (a b : List Int) : decide (0 ≤ WK a b) = !Jn a b := by unfold WK; grind
theorem Qm2 {x : Int} (h : -9223372036854775808 ≤ x ∧ x ≤ 9223372036854775807) : IntKind.wrap .i64 x = x := Qhk h
theorem QFL (k : Nat) : decide ((0 : Int) ≤ (k : Int)) = true := decide_eq_true (by omega)
theorem Gz (a b : Bool) : (a && b) = bif a then b else false := by cases a <;> rfl
theorem EH (a b : Bool) : (a || b) = bif a then true else b := by cases a <;> rfl
theorem Zf {α : Type} (c : Bool) (a b : α) : some (bif c then a else b) = bif c then some a else some b := by cases c <;> rfl
theorem Jh (p : Prop) [Decidable p] : some (decide p) = bif decide p then some true else some false := by cases decide p <;> rfl
def Ju {α : Type} (xs : List α) (k : Nat) : Option α := if k = 0 then none else xs[k - 1]?
theorem JZ {α : Type} (xs : List α) : Ju xs 0 = none := rfl
theorem X6 {α : Type} {xs rest : List α} {e d : α} {k : Nat} (hl : xs.length ≤ maxLen) (h : e :: rest = xs.drop k) :
  rest = xs.drop (k + 1) ∧ Ju xs (k + 1) = some e ∧ k < xs.length ∧ e ∈ xs ∧
   (k = 0 ∨ (0 < k ∧ inB (IntKind.wrap .i64 ((k : Int) - 1)) xs.length = true ∧ Ju xs k = some (rd xs (IntKind.wrap .i64 ((k : Int) - 1)) d) ∧ rd xs (IntKind.wrap .i64 ((k : Int) - 1)) d ∈ xs)) := by
 obtain ⟨hk, hx, hr⟩ := QE (d := d) h
 have e1 : xs[k]? = some e := by rw [List.getElem?_eq_getElem hk]; rw [Qdc (List.getElem?_eq_getElem hk)] at hx; rw [hx]
 refine ⟨hr, ?_, hk, List.mem_of_getElem? e1, ?_⟩
 ·unfold Ju; rw [if_neg (by omega), Nat.add_sub_cancel]; exact e1
 ·rcases Nat.eq_zero_or_pos k with h0 | h0
  ·exact .inl h0
  ·right
   obtain ⟨j, rfl⟩ : ∃ j, k = j + 1 := ⟨k - 1, by omega⟩
   have hw : IntKind.wrap .i64 (((j + 1 : Nat) : Int) - 1) = (j : Int) := Qh6 hl (by omega)
   have hj := List.getElem?_eq_getElem (show j < xs.length by omega)
   rw [hw]
   refine ⟨h0, QB (by omega), ?_, ?_⟩
   ·unfold Ju; rw [if_neg (by omega), Nat.add_sub_cancel, Qdc hj]; exact hj
   ·rw [Qdc hj]; exact List.getElem_mem _
def Z9 {α : Type} (lt : α → α → Bool) : Option α → List α → Bool
 | _, [] => true
 | none, x :: r => Z9 lt (some x) r
 | some p, x :: r => lt p x && Z9 lt (some x) r
def Vc {α : Type} (lt : α → α → Bool) (l : List α) : Bool := Z9 lt none l
theorem J9 {α : Type} (lt : α → α → Bool) (p : Option α) : Z9 lt p [] = true := by cases p <;> rfl
theorem JI {α : Type} (lt : α → α → Bool) (p : Option α) (x : α) (r : List α) : Z9 lt p (x :: r) = ((match p with | none => true | some q => lt q x) && Z9 lt (some x) r) := by
 cases p <;> simp [Z9]
theorem QEe {α : Type} (p q : α → Bool) : ∀ l : List α, (l.all p && l.all q) = l.all fun x => p x && q x
 | [] => rfl
 | x :: l => by simp only [List.all_cons, ← QEe p q l]; cases p x <;> cases q x <;> simp
abbrev Atm : Type := Int × Int × List Int × List Int
def QEP (n : Int) : Int := 2 ^ n.toNat
def V2 (a : Atm) : Bool :=
 let bare := decide (a.2.2.1 = []) && decide (a.2.2.2 = [])
 bif decide (a.1 = 1) then bare && (decide (a.2.1 = 0) || decide (a.2.1 = 1))
 else bif decide (a.1 = 2) then bare
 else bif decide (a.1 = 3) then decide (a.2.1 = 0) && decide (a.2.2.2 = []) && Qbp a.2.2.1 0 200
 else bif decide (a.1 = 4) then decide (a.2.1 = 0) && Gy a.2.2.2 && Qbp a.2.2.1 1 200
 else bif decide (a.1 = 5) then bare
 else bif decide (a.1 = 6) then bare && decide (0 ≤ a.2.1) && decide (a.2.1.tmod 64 ≤ 32) && decide (a.2.1.tdiv 64 < 4294967296) && decide ((a.2.1.tdiv 64).tmod (QEP (32 - a.2.1.tmod 64)) = 0)
 else bif decide (a.1 = 7) then bare && decide (-100000000000 ≤ a.2.1) && decide (a.2.1 ≤ 100000000000)
 else false
def G8 (a b : Atm) : Bool :=
 decide (a.1 < b.1) || (decide (a.1 = b.1) && (decide (a.2.1 < b.2.1) || (decide (a.2.1 = b.2.1) && (Jn a.2.2.2 b.2.2.2 || (decide (a.2.2.2 = b.2.2.2) && Jn a.2.2.1 b.2.2.1)))))
def Xx (a b : Atm) : Int :=
 bif !decide (Xw a.1 b.1 = 0) then Xw a.1 b.1 else bif !decide (Xw a.2.1 b.2.1 = 0) then Xw a.2.1 b.2.1 else
 bif !decide (WK a.2.2.2 b.2.2.2 = 0) then WK a.2.2.2 b.2.2.2 else WK a.2.2.1 b.2.2.1
theorem QsN : ∀ a : List Int, Jn a a = false
 | [] => rfl
 | x :: a => by simp [Jn, QsN a]
theorem QwV : ∀ a b : List Int, a ≠ b → Jn a b = false → Jn b a = true
 | [], [], h, _ => absurd rfl h
 | [], y :: b, _, h => by simp [Jn] at h
 | x :: a, [], _, _ => rfl
 | x :: a, y :: b, h, h2 => by
  have ih := QwV a b
  simp only [Jn] at h2 ⊢
  grind
theorem QgB (a b : List Int) : decide (WK a b = 0) = decide (a = b) := by
 unfold WK
 by_cases h : a = b
 ·subst h; simp [QsN]
 ·cases h1 : Jn a b with
  | true => simp [h]
  | false => simp [QwV a b h h1, h]
theorem Qfe (a b : Atm) : decide (0 ≤ Xx a b) = !G8 a b := by
 have h := QgB a.2.2.2 b.2.2.2
 have h1 := Qia a.2.2.2 b.2.2.2
 have h2 := Qia a.2.2.1 b.2.2.1
 unfold Xx G8 Xw
 grind
abbrev Val : Type := Int × Atm × List Atm × List (List Int)
def Qbq (v : Val) : Bool :=
 bif decide (v.1 = 1) then V2 v.2.1 && decide (v.2.2.1.length = 0) && decide (v.2.2.2.length = 0)
 else bif decide (v.1 = 2) then decide (v.2.1 = (0, 0, [], [])) && decide (v.2.2.1.length ≤ 50) && decide (v.2.2.2.length = 0) && (v.2.2.1.all V2 && Vc G8 v.2.2.1)
 else bif decide (v.1 = 3) then decide (v.2.1 = (0, 0, [], [])) && decide (v.2.2.1.length ≤ 50) && decide (v.2.2.2.length = v.2.2.1.length) && v.2.2.2.all Gy && Vc Jn v.2.2.2 && v.2.2.1.all V2
 else false
abbrev Req : Type := Atm × Atm × Atm × List (List Int) × List Val
def HJ (n : List (List Int)) (v : List Val) : Bool :=
 decide (n.length ≤ 20) && decide (v.length = n.length) && n.all Gy && Vc Jn n && v.all fun v => !decide (v.1 = 3) && Qbq v
def GT (a : Atm) : Bool := decide (a.1 = 4) && V2 a
def QcP (r : Req) : Bool := GT r.1 && GT r.2.1 && GT r.2.2.1 && HJ r.2.2.2.1 r.2.2.2.2
abbrev Thg : Type := Atm × List Atm × List (List Int) × List Val
def Qzt (l : List Atm) : Bool := l.all GT && Vc G8 l
def Qbr (t : Thg) : Bool := GT t.1 && decide (t.2.1.length ≤ 50) && Qzt t.2.1 && HJ t.2.2.1 t.2.2.2
def Xy (l : List Thg) : Bool := decide (l.length ≤ 100) && (l.all Qbr && Vc (fun a b => G8 a.1 b.1) l)
theorem QDL {left : Int} {n : Nat} (h : decide (Qw left n < 0) = false) : (n : Int) ≤ left ∧ 0 ≤ Qw left n ∧ Qw left n ≤ left := by
 have hd := of_decide_eq_false h
 unfold Qw at hd ⊢
 split at hd
 ·rename_i h1; rw [if_pos h1]; omega
 ·omega
theorem QDM {a b : Atm} (h : Xx a b = 0) : a = b := by
 have h1 := QgB a.2.2.2 b.2.2.2
 have h2 := QgB a.2.2.1 b.2.2.1
 obtain ⟨a1, a2, a3, a4⟩ := a
 obtain ⟨b1, b2, b3, b4⟩ := b
 simp only [decide_eq_decide] at h1 h2
 unfold Xx Xw at h
 dsimp only at h h1 h2
 grind
theorem QoS {α : Type} [DecidableEq α] : ∀ {S D : List α}, S.Nodup → (∀ x ∈ S, x ∈ D) → S.length ≤ D.length
 | [], D, _, _ => Nat.zero_le _
 | x :: S, D, hn, hs => by
  rw [List.nodup_cons] at hn
  have h1 := QoS (D := D.erase x) hn.2 (fun y hy => (List.mem_erase_of_ne (fun e => by subst e; exact hn.1 hy)).2 (hs y (by simp [hy])))
  have h2 := List.length_erase_of_mem (hs x (by simp))
  have h3 : 0 < D.length := List.length_pos_of_mem (hs x (by simp))
  rw [List.length_cons]; omega
end Go.Ab
