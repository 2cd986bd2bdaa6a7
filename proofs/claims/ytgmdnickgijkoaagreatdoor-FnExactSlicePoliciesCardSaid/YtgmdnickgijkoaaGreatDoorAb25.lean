import Derived.Test.YtgmdnickgijkoaaGreatDoorAb23
namespace Go.Ab
def QCF : Nat → Nat → List Int
 | 0, _ => []
 | f + 1, n => if n = 0 then [] else QCF f (n / 10) ++ [48 + ((n % 10 : Nat) : Int)]
def Hi (k : Int) : List Int := if k ≤ 0 then [109, 48] else 109 :: QCF (k.toNat + 1) k.toNat
def Gw {α : Type} (f : α → Int → Int × α) : List α → Int → Int × List α
 | [], k => (k, [])
 | x :: xs, k => ((Gw f xs (f x k).1).1, (f x k).2 :: (Gw f xs (f x k).1).2)
def Yj : (t : Ty) → t.den → Int → Int × t.den
 | .int k0, _, k => (k + 1, k0.wrap k)
 | .bool, _, k => (k + 1, decide (Int.tmod k 3 = 0))
 | .str, _, k => (k + 1, Hi k)
 | .unit, x, k => (k, x)
 | .pair a b, x, k => ((Yj b x.2 (Yj a x.1 k).1).1, ((Yj a x.1 k).2, (Yj b x.2 (Yj a x.1 k).1).2))
 | .list t, xs, k => Gw (Yj t) xs k
 | .map _ _, x, k => (k, x)
 | .tree _, x, k => (k, x)
def JY : (t : Ty) → t.den → Int → Int × t.den
 | .pair a b, x, k => ((JY b x.2 (JY a x.1 k).1).1, ((JY a x.1 k).2, (JY b x.2 (JY a x.1 k).1).2))
 | .list t, xs, k => Gw (Yj t) xs k
 | .int _, x, k => (k, x)
 | .bool, x, k => (k, x)
 | .str, x, k => (k, x)
 | .unit, x, k => (k, x)
 | .map _ _, x, k => (k, x)
 | .tree _, x, k => (k, x)
def HH : (t : Ty) → t.den → Nat
 | .int _, _ => 1
 | .bool, _ => 1
 | .str, _ => 1
 | .unit, _ => 0
 | .pair a b, x => HH a x.1 + HH b x.2
 | .list t, xs => (List.map (HH t) xs).sum
 | .map _ _, _ => 0
 | .tree _, _ => 0
def Hj : (t : Ty) → t.den → Nat
 | .pair a b, x => Hj a x.1 + Hj b x.2
 | .list t, xs => (List.map (HH t) xs).sum
 | .int _, _ => 0
 | .bool, _ => 0
 | .str, _ => 0
 | .unit, _ => 0
 | .map _ _, _ => 0
 | .tree _, _ => 0
def Zh : Int := 1099511627776
theorem Qvc {α : Type} {f : α → Int → Int × α} {g : α → Nat} (h : ∀ x k, (f x k).1 = k + g x) : ∀ (xs : List α) (k : Int), (Gw f xs k).1 = k + ((xs.map g).sum : Nat)
 | [], k => by simp [Gw]
 | x :: xs, k => by simp only [Gw, Qvc h xs, h, List.map_cons, List.sum_cons]; omega
theorem Qbn : ∀ (t : Ty) (x : t.den) (k : Int), (Yj t x k).1 = k + HH t x
 | .int _, _, _ => rfl
 | .bool, _, _ => rfl
 | .str, _, _ => rfl
 | .unit, _, k => (Int.add_zero k).symm
 | .pair a b, x, k => by simp only [Yj, HH, Qbn a, Qbn b]; omega
 | .list t, xs, k => Qvc (Qbn t) xs k
 | .map _ _, _, k => (Int.add_zero k).symm
 | .tree _, _, k => (Int.add_zero k).symm
theorem G7 : ∀ (t : Ty) (x : t.den) (k : Int), (JY t x k).1 = k + Hj t x
 | .int _, _, k => (Int.add_zero k).symm
 | .bool, _, k => (Int.add_zero k).symm
 | .str, _, k => (Int.add_zero k).symm
 | .unit, _, k => (Int.add_zero k).symm
 | .pair a b, x, k => by simp only [JY, Hj, G7 a, G7 b]; omega
 | .list t, xs, k => Qvc (Qbn t) xs k
 | .map _ _, _, k => (Int.add_zero k).symm
 | .tree _, _, k => (Int.add_zero k).symm
inductive Act1 where
 | seti (off : Nat) | sety (off : Nat) | setb (off : Nat) | sets (off : Nat) | inc | sub (off : Nat) (t : Ty)
def QCG (cs : List V) (off : Nat) (v : V) (k : Int) : Option (List V × Int) :=
 match cs[off]? with
 | some c => bif c.scl then some (cs.set off v, k) else none
 | none => none
open Classical in
noncomputable def EF : Act1 → List V × Int → Option (List V × Int)
 | .seti off, (cs, k) => QCG cs off (.d (.int .i64) k) k
 | .sety off, (cs, k) => QCG cs off (.d (.int .u8) (IntKind.wrap .u8 k)) k
 | .setb off, (cs, k) => QCG cs off (.d .bool (decide (Int.tmod k 3 = 0))) k
 | .sets off, (cs, k) => QCG cs off (.d .str (Hi k)) k
 | .inc, (cs, k) => if k + 1 ≤ Zh then some (cs, k + 1) else none
 | .sub off t, (cs, k) => match Yy t ((cs.drop off).take t.cells) with
  | some x => if k + Hj t x ≤ Zh then some (YR cs off (Qq t (JY t x k).2), (JY t x k).1) else none
  | none => none
noncomputable def Yk : List Act1 → List V × Int → Option (List V × Int)
 | [], s => some s
 | a :: l, s => (EF a s).bind (Yk l)
theorem Qcv : ∀ (l l' : List Act1) (s : List V × Int), Yk (l ++ l') s = (Yk l s).bind (Yk l')
 | [], l', s => rfl
 | a :: l, l', s => by
  simp only [List.cons_append, Yk]
  cases EF a s with
  | none => rfl
  | some s' => exact Qcv l l' s'
def Ty.mok : Ty → Bool
 | .int .i64 | .int .u8 | .bool | .str | .unit => true
 | .pair a b => a.mok && b.mok
 | .list t => t.mok
 | _ => false
def QmZ : Ty → Nat → List Act1
 | .int .i64, off => [.seti off, .inc]
 | .int _, off => [.sety off, .inc]
 | .bool, off => [.setb off, .inc]
 | .str, off => [.sets off, .inc]
 | .pair a b, off => QmZ a off ++ QmZ b (off + a.cells)
 | .list t, off => [.sub off (.list t)]
 | _, _ => []
def Ty.beq (a b : Ty) : Bool := match Ty.eq? a b with
 | some _ => true
 | none => false
theorem Ty.beq_eq {a b : Ty} (h : a.beq b = true) : a = b := by
 unfold Ty.beq at h
 split at h
 ·rename_i e _; exact e.down
 ·cases h
def QF7 (off : Nat) (t : Ty) : List Act1 → Option (List Act1)
 | .sub o t' :: rest => bif Nat.beq o off && Ty.beq t' t then some rest else none
 | _ => none
def QFC : Ty → Nat → List Act1 → Option (List Act1)
 | .list t, off, acts => QF7 off (.list t) acts
 | .pair a b, off, acts => match QF7 off (.pair a b) acts with
  | some r => some r
  | none => (QFC a off acts).bind (QFC b (off + a.cells))
 | .int _, _, acts => some acts
 | .bool, _, acts => some acts
 | .str, _, acts => some acts
 | .unit, _, acts => some acts
 | _, _, _ => none
theorem QA8 {off : Nat} {t : Ty} {acts rest : List Act1} (h : QF7 off t acts = some rest) : acts = .sub off t :: rest := by
 unfold QF7 at h
 split at h
 case h_2 => cases h
 obtain ⟨h0, h⟩ := Qk h
 simp only [Bool.and_eq_true] at h0
 rw [Nat.eq_of_beq_eq_true h0.1, Ty.beq_eq h0.2, Option.some.inj h]
theorem cast?_self (t : Ty) (x : t.den) : cast? t t x = some x := by
 obtain ⟨⟨h⟩, e⟩ := eq?_self t
 unfold cast?
 rw [e]
theorem Qj6 (t : Ty) (x : t.den) : XO t (.d t x) = some x := by
 have : XO t (.d t x) = cast? t t x := by cases t <;> rfl
 rw [this, cast?_self]
theorem Qbo : ∀ (t : Ty) (x : t.den), t.dok = true → Yy t (Qq t x) = some x
 | .int k, x, _ => Qj6 (.int k) x
 | .bool, x, _ => Qj6 .bool x
 | .str, x, _ => Qj6 .str x
 | .unit, x, _ => rfl
 | .list t, x, _ => Qj6 (.list t) x
 | .pair a b, x, h => by
  simp only [Ty.dok, Bool.and_eq_true] at h
  have e1 : (Qq a x.1 ++ Qq b x.2).take a.cells = Qq a x.1 := by rw [← ZX a x.1, List.take_left]
  have e2 : (Qq a x.1 ++ Qq b x.2).drop a.cells = Qq b x.2 := by rw [← ZX a x.1, List.drop_left]
  simp only [Yy, Qq, e1, e2, Qbo a x.1 h.1, Qbo b x.2 h.2]
theorem QF8 {α : Type} (pre post : List α) (x y : α) : (pre ++ x :: post).set pre.length y = pre ++ y :: post := by
 induction pre with
 | nil => rfl
 | cons a pre ih => simp [ih]
theorem Wi : ∀ {t : Ty}, t.mok = true → t.dok = true
 | .int _, _ => rfl
 | .bool, _ => rfl
 | .str, _ => rfl
 | .unit, _ => rfl
 | .pair a b, h => by
  simp only [Ty.mok, Bool.and_eq_true] at h
  simp only [Ty.dok, Bool.and_eq_true]
  exact ⟨Wi h.1, Wi h.2⟩
 | .list t, h => Wi (t := t) h
theorem QsK (pre post : List V) (x y : V) (k : Int) (hx : x.scl = true) : QCG (pre ++ x :: post) pre.length y k = some (pre ++ y :: post, k) := by
 unfold QCG
 have : (pre ++ x :: post)[pre.length]? = some x := by simp
 rw [this]
 simp only [hx, cond_true, QF8]
theorem QBR {t : Ty} (ht : t.dok = true) (pre post : List V) (x : t.den) (k : Int) (hk : k + Hj t x ≤ Zh) : EF (.sub pre.length t) (pre ++ Qq t x ++ post, k) = some (pre ++ Qq t (JY t x k).2 ++ post, (JY t x k).1) := by
 have e1 : ((pre ++ Qq t x ++ post).drop pre.length).take t.cells = Qq t x := by
  rw [List.append_assoc, List.drop_left, ← ZX t x, List.take_left]
 simp only [EF, e1, Qbo t x ht]
 rw [if_pos hk]
 congr 2
 unfold YR
 rw [ZX, ← ZX t x]
 have e2 : (pre ++ Qq t x ++ post).take pre.length = pre := by rw [List.append_assoc, List.take_left]
 have e3 : (pre ++ Qq t x ++ post).drop (pre.length + (Qq t x).length) = post := by rw [← List.length_append, List.drop_left]
 rw [e2, e3]
theorem wrap_i64 {k : Int} (h0 : 0 ≤ k) (h1 : k ≤ Zh) : IntKind.wrap .i64 k = k :=
 QyH (Y1.2 (by rw [We, Hh]; unfold Zh at h1; omega))
theorem Qvd : ∀ (t : Ty), t.mok = true → ∀ (x : t.den) (pre post : List V) (k : Int) (rest : List Act1), 0 ≤ k → k + HH t x ≤ Zh →
  Yk (QmZ t pre.length ++ rest) (pre ++ Qq t x ++ post, k) = Yk rest (pre ++ Qq t (Yj t x k).2 ++ post, (Yj t x k).1)
 | .int k0, ht, x, pre, post, k, rest, h0, h1 => by
  have h1 : k + (1 : Nat) ≤ Zh := h1
  cases k0 with
  | i64 =>
   simp only [QmZ, List.cons_append, List.nil_append, Yk, EF, Qq, Yj, List.append_assoc]
   rw [QsK (hx := rfl)]
   simp only [Option.bind_some]
   rw [if_pos (by omega), wrap_i64 h0 (by omega)]
   rfl
  | u8 =>
   simp only [QmZ, List.cons_append, List.nil_append, Yk, EF, Qq, Yj, List.append_assoc]
   rw [QsK (hx := rfl)]
   simp only [Option.bind_some]
   rw [if_pos (by omega)]
   rfl
  | _ => cases ht
 | .bool, _, x, pre, post, k, rest, h0, h1 => by
  have h1 : k + (1 : Nat) ≤ Zh := h1
  simp only [QmZ, List.cons_append, List.nil_append, Yk, EF, Qq, Yj, List.append_assoc]
  rw [QsK (hx := rfl)]
  simp only [Option.bind_some]
  rw [if_pos (by omega)]
  rfl
 | .str, _, x, pre, post, k, rest, h0, h1 => by
  have h1 : k + (1 : Nat) ≤ Zh := h1
  simp only [QmZ, List.cons_append, List.nil_append, Yk, EF, Qq, Yj, List.append_assoc]
  rw [QsK (hx := rfl)]
  simp only [Option.bind_some]
  rw [if_pos (by omega)]
  rfl
 | .unit, _, x, pre, post, k, rest, _, _ => rfl
 | .pair a b, ht, x, pre, post, k, rest, h0, h1 => by
  simp only [Ty.mok, Bool.and_eq_true] at ht
  simp only [HH] at h1
  have ha := Qvd a ht.1 x.1 pre (Qq b x.2 ++ post) k (QmZ b (pre.length + a.cells) ++ rest) h0 (by omega)
  have hb := Qvd b ht.2 x.2 (pre ++ Qq a (Yj a x.1 k).2) post (Yj a x.1 k).1 rest (by rw [Qbn]; omega) (by rw [Qbn]; omega)
  rw [List.length_append, ZX] at hb
  simp only [QmZ, Qq, Yj, List.append_assoc] at ha hb ⊢
  rw [ha, hb]
 | .list t, ht, xs, pre, post, k, rest, h0, h1 => by
  have := QBR (t := .list t) (Wi (t := .list t) ht) pre post xs k h1
  simp only [QmZ, List.cons_append, List.nil_append, Yk, this, Option.bind_some]
  rfl
theorem Qzp : ∀ (t : Ty), t.dok = true → ∀ (x : t.den) (pre post : List V) (k : Int) (acts rest : List Act1), QFC t pre.length acts = some rest → 0 ≤ k → k + Hj t x ≤ Zh →
  Yk acts (pre ++ Qq t x ++ post, k) = Yk rest (pre ++ Qq t (JY t x k).2 ++ post, (JY t x k).1)
 | .int _, _, x, pre, post, k, acts, rest, h, _, _ => by cases h; rfl
 | .bool, _, x, pre, post, k, acts, rest, h, _, _ => by cases h; rfl
 | .str, _, x, pre, post, k, acts, rest, h, _, _ => by cases h; rfl
 | .unit, _, x, pre, post, k, acts, rest, h, _, _ => by cases h; rfl
 | .list t, ht, xs, pre, post, k, acts, rest, h, h0, h1 => by
  rw [QA8 h]
  simp only [Yk, QBR ht pre post xs k h1, Option.bind_some]
 | .pair a b, ht, x, pre, post, k, acts, rest, h, h0, h1 => by
  unfold QFC at h
  split at h
  ·rename_i r hr
   cases h
   rw [QA8 hr]
   simp only [Yk, QBR ht pre post x k h1, Option.bind_some]
  ·obtain ⟨mid, hm, h⟩ := Option.bind_eq_some_iff.1 h
   simp only [Ty.dok, Bool.and_eq_true] at ht
   simp only [Hj] at h1
   have ha := Qzp a ht.1 x.1 pre (Qq b x.2 ++ post) k acts mid hm h0 (by omega)
   have hb := Qzp b ht.2 x.2 (pre ++ Qq a (JY a x.1 k).2) post (JY a x.1 k).1 mid rest (by rw [List.length_append, ZX]; exact h) (by rw [G7]; omega) (by rw [G7]; omega)
   simp only [Qq, JY, List.append_assoc] at ha hb ⊢
   rw [ha, hb]
end Go.Ab
