/-
  The functions of the laws' file that write a mark into each part of a datum: what they make of it.
-/
import Derived.Test.YtgmdnickgijkoaaDoorAb23
namespace Go.Ab

/-! ## What stands there afterwards -/
def mdig : Nat → Nat → List Int
  | 0, _ => []
  | f + 1, n => if n = 0 then [] else mdig f (n / 10) ++ [48 + ((n % 10 : Nat) : Int)]

/-- The text that is a number's mark. -/
def mtext (k : Int) : List Int := if k ≤ 0 then [109, 48] else 109 :: mdig (k.toNat + 1) k.toNat

def foldM {α : Type} (f : α → Int → Int × α) : List α → Int → Int × List α
  | [], k => (k, [])
  | x :: xs, k => ((foldM f xs (f x k).1).1, (f x k).2 :: (foldM f xs (f x k).1).2)

/-- A place's contents, marked. -/
def markE : (t : Ty) → t.den → Int → Int × t.den
  | .int k0, _, k => (k + 1, k0.wrap k)
  | .bool, _, k => (k + 1, decide (Int.tmod k 3 = 0))
  | .str, _, k => (k + 1, mtext k)
  | .unit, x, k => (k, x)
  | .pair a b, x, k => ((markE b x.2 (markE a x.1 k).1).1, ((markE a x.1 k).2, (markE b x.2 (markE a x.1 k).1).2))
  | .list t, xs, k => foldM (markE t) xs k
  | .map _ _, x, k => (k, x)
  | .tree _, x, k => (k, x)

/-- A value, what its slices lead to marked. -/
def markS : (t : Ty) → t.den → Int → Int × t.den
  | .pair a b, x, k => ((markS b x.2 (markS a x.1 k).1).1, ((markS a x.1 k).2, (markS b x.2 (markS a x.1 k).1).2))
  | .list t, xs, k => foldM (markE t) xs k
  | .int _, x, k => (k, x)
  | .bool, x, k => (k, x)
  | .str, x, k => (k, x)
  | .unit, x, k => (k, x)
  | .map _ _, x, k => (k, x)
  | .tree _, x, k => (k, x)

/-- How many marks. -/
def slotE : (t : Ty) → t.den → Nat
  | .int _, _ => 1
  | .bool, _ => 1
  | .str, _ => 1
  | .unit, _ => 0
  | .pair a b, x => slotE a x.1 + slotE b x.2
  | .list t, xs => (List.map (slotE t) xs).sum
  | .map _ _, _ => 0
  | .tree _, _ => 0
def slotS : (t : Ty) → t.den → Nat
  | .pair a b, x => slotS a x.1 + slotS b x.2
  | .list t, xs => (List.map (slotE t) xs).sum
  | .int _, _ => 0
  | .bool, _ => 0
  | .str, _ => 0
  | .unit, _ => 0
  | .map _ _, _ => 0
  | .tree _, _ => 0

/-- As far as marks go. -/
def markTop : Int := 1099511627776

theorem foldM_fst {α : Type} {f : α → Int → Int × α} {g : α → Nat} (h : ∀ x k, (f x k).1 = k + g x) : ∀ (xs : List α) (k : Int), (foldM f xs k).1 = k + ((xs.map g).sum : Nat)
  | [], k => by simp [foldM]
  | x :: xs, k => by simp only [foldM, foldM_fst h xs, h, List.map_cons, List.sum_cons]; omega

theorem markE_fst : ∀ (t : Ty) (x : t.den) (k : Int), (markE t x k).1 = k + slotE t x
  | .int _, _, _ => rfl
  | .bool, _, _ => rfl
  | .str, _, _ => rfl
  | .unit, _, k => (Int.add_zero k).symm
  | .pair a b, x, k => by simp only [markE, slotE, markE_fst a, markE_fst b]; omega
  | .list t, xs, k => foldM_fst (markE_fst t) xs k
  | .map _ _, _, k => (Int.add_zero k).symm
  | .tree _, _, k => (Int.add_zero k).symm

theorem markS_fst : ∀ (t : Ty) (x : t.den) (k : Int), (markS t x k).1 = k + slotS t x
  | .int _, _, k => (Int.add_zero k).symm
  | .bool, _, k => (Int.add_zero k).symm
  | .str, _, k => (Int.add_zero k).symm
  | .unit, _, k => (Int.add_zero k).symm
  | .pair a b, x, k => by simp only [markS, slotS, markS_fst a, markS_fst b]; omega
  | .list t, xs, k => foldM_fst (markE_fst t) xs k
  | .map _ _, _, k => (Int.add_zero k).symm
  | .tree _, _, k => (Int.add_zero k).symm

/-! ## Steps -/
inductive Act1 where
  | seti (off : Nat) | sety (off : Nat) | setb (off : Nat) | sets (off : Nat) | inc | sub (off : Nat) (t : Ty)

def setV (cs : List V) (off : Nat) (v : V) (k : Int) : Option (List V × Int) :=
  match cs[off]? with
  | some c => bif c.scl then some (cs.set off v, k) else none
  | none => none

open Classical in
noncomputable def actRun1 : Act1 → List V × Int → Option (List V × Int)
  | .seti off, (cs, k) => setV cs off (.d (.int .i64) k) k
  | .sety off, (cs, k) => setV cs off (.d (.int .u8) (IntKind.wrap .u8 k)) k
  | .setb off, (cs, k) => setV cs off (.d .bool (decide (Int.tmod k 3 = 0))) k
  | .sets off, (cs, k) => setV cs off (.d .str (mtext k)) k
  | .inc, (cs, k) => if k + 1 ≤ markTop then some (cs, k + 1) else none
  | .sub off t, (cs, k) => match pack t ((cs.drop off).take t.cells) with
    | some x => if k + slotS t x ≤ markTop then some (spliceAt cs off (explode t (markS t x k).2), (markS t x k).1) else none
    | none => none

noncomputable def actRun : List Act1 → List V × Int → Option (List V × Int)
  | [], s => some s
  | a :: l, s => (actRun1 a s).bind (actRun l)

theorem actRun_append : ∀ (l l' : List Act1) (s : List V × Int), actRun (l ++ l') s = (actRun l s).bind (actRun l')
  | [], l', s => rfl
  | a :: l, l', s => by
    simp only [List.cons_append, actRun]
    cases actRun1 a s with
    | none => rfl
    | some s' => exact actRun_append l l' s'

/-- Whole numbers of these kinds alone, no map and no tree. -/
def Ty.mok : Ty → Bool
  | .int .i64 | .int .u8 | .bool | .str | .unit => true
  | .pair a b => a.mok && b.mok
  | .list t => t.mok
  | _ => false

def actsE : Ty → Nat → List Act1
  | .int .i64, off => [.seti off, .inc]
  | .int _, off => [.sety off, .inc]
  | .bool, off => [.setb off, .inc]
  | .str, off => [.sets off, .inc]
  | .pair a b, off => actsE a off ++ actsE b (off + a.cells)
  | .list t, off => [.sub off (.list t)]
  | _, _ => []

def Ty.beq (a b : Ty) : Bool := match Ty.eq? a b with
  | some _ => true
  | none => false
theorem Ty.beq_eq {a b : Ty} (h : a.beq b = true) : a = b := by
  unfold Ty.beq at h
  split at h
  · rename_i e _; exact e.down
  · cases h

def eatL (off : Nat) (t : Ty) : List Act1 → Option (List Act1)
  | .sub o t' :: rest => bif Nat.beq o off && Ty.beq t' t then some rest else none
  | _ => none
/-- The steps of a value's marking, eaten. -/
def eatS : Ty → Nat → List Act1 → Option (List Act1)
  | .list t, off, acts => eatL off (.list t) acts
  | .pair a b, off, acts => match eatL off (.pair a b) acts with
    | some r => some r
    | none => (eatS a off acts).bind (eatS b (off + a.cells))
  | .int _, _, acts => some acts
  | .bool, _, acts => some acts
  | .str, _, acts => some acts
  | .unit, _, acts => some acts
  | _, _, _ => none

theorem eatL_some {off : Nat} {t : Ty} {acts rest : List Act1} (h : eatL off t acts = some rest) : acts = .sub off t :: rest := by
  unfold eatL at h
  split at h
  case h_2 => cases h
  obtain ⟨h0, h⟩ := bif_some h
  simp only [Bool.and_eq_true] at h0
  rw [Nat.eq_of_beq_eq_true h0.1, Ty.beq_eq h0.2, Option.some.inj h]

theorem cast?_self (t : Ty) (x : t.den) : cast? t t x = some x := by
  obtain ⟨⟨h⟩, e⟩ := eq?_self t
  unfold cast?
  rw [e]

theorem packS_self (t : Ty) (x : t.den) : packS t (.d t x) = some x := by
  have : packS t (.d t x) = cast? t t x := by cases t <;> rfl
  rw [this, cast?_self]

theorem pack_self : ∀ (t : Ty) (x : t.den), t.dok = true → pack t (explode t x) = some x
  | .int k, x, _ => packS_self (.int k) x
  | .bool, x, _ => packS_self .bool x
  | .str, x, _ => packS_self .str x
  | .unit, x, _ => rfl
  | .list t, x, _ => packS_self (.list t) x
  | .pair a b, x, h => by
    simp only [Ty.dok, Bool.and_eq_true] at h
    have e1 : (explode a x.1 ++ explode b x.2).take a.cells = explode a x.1 := by rw [← explode_len a x.1, List.take_left]
    have e2 : (explode a x.1 ++ explode b x.2).drop a.cells = explode b x.2 := by rw [← explode_len a x.1, List.drop_left]
    simp only [pack, explode, e1, e2, pack_self a x.1 h.1, pack_self b x.2 h.2]

theorem set_mid {α : Type} (pre post : List α) (x y : α) : (pre ++ x :: post).set pre.length y = pre ++ y :: post := by
  induction pre with
  | nil => rfl
  | cons a pre ih => simp [ih]

theorem mok_dok : ∀ {t : Ty}, t.mok = true → t.dok = true
  | .int _, _ => rfl
  | .bool, _ => rfl
  | .str, _ => rfl
  | .unit, _ => rfl
  | .pair a b, h => by
    simp only [Ty.mok, Bool.and_eq_true] at h
    simp only [Ty.dok, Bool.and_eq_true]
    exact ⟨mok_dok h.1, mok_dok h.2⟩
  | .list t, h => mok_dok (t := t) h

theorem setV_mid (pre post : List V) (x y : V) (k : Int) (hx : x.scl = true) : setV (pre ++ x :: post) pre.length y k = some (pre ++ y :: post, k) := by
  unfold setV
  have : (pre ++ x :: post)[pre.length]? = some x := by simp
  rw [this]
  simp only [hx, cond_true, set_mid]

theorem sub_run {t : Ty} (ht : t.dok = true) (pre post : List V) (x : t.den) (k : Int) (hk : k + slotS t x ≤ markTop) : actRun1 (.sub pre.length t) (pre ++ explode t x ++ post, k) = some (pre ++ explode t (markS t x k).2 ++ post, (markS t x k).1) := by
  have e1 : ((pre ++ explode t x ++ post).drop pre.length).take t.cells = explode t x := by
    rw [List.append_assoc, List.drop_left, ← explode_len t x, List.take_left]
  simp only [actRun1, e1, pack_self t x ht]
  rw [if_pos hk]
  congr 2
  unfold spliceAt
  rw [explode_len, ← explode_len t x]
  have e2 : (pre ++ explode t x ++ post).take pre.length = pre := by rw [List.append_assoc, List.take_left]
  have e3 : (pre ++ explode t x ++ post).drop (pre.length + (explode t x).length) = post := by rw [← List.length_append, List.drop_left]
  rw [e2, e3]

theorem wrap_i64 {k : Int} (h0 : 0 ≤ k) (h1 : k ≤ markTop) : IntKind.wrap .i64 k = k :=
  wrap_inK (inK_iff.2 (by rw [min_i64, max_i64]; unfold markTop at h1; omega))

theorem actsE_run : ∀ (t : Ty), t.mok = true → ∀ (x : t.den) (pre post : List V) (k : Int) (rest : List Act1), 0 ≤ k → k + slotE t x ≤ markTop →
    actRun (actsE t pre.length ++ rest) (pre ++ explode t x ++ post, k) = actRun rest (pre ++ explode t (markE t x k).2 ++ post, (markE t x k).1)
  | .int k0, ht, x, pre, post, k, rest, h0, h1 => by
    have h1 : k + (1 : Nat) ≤ markTop := h1
    cases k0 with
    | i64 =>
      simp only [actsE, List.cons_append, List.nil_append, actRun, actRun1, explode, markE, List.append_assoc]
      rw [setV_mid (hx := rfl)]
      simp only [Option.bind_some]
      rw [if_pos (by omega), wrap_i64 h0 (by omega)]
      rfl
    | u8 =>
      simp only [actsE, List.cons_append, List.nil_append, actRun, actRun1, explode, markE, List.append_assoc]
      rw [setV_mid (hx := rfl)]
      simp only [Option.bind_some]
      rw [if_pos (by omega)]
      rfl
    | _ => cases ht
  | .bool, _, x, pre, post, k, rest, h0, h1 => by
    have h1 : k + (1 : Nat) ≤ markTop := h1
    simp only [actsE, List.cons_append, List.nil_append, actRun, actRun1, explode, markE, List.append_assoc]
    rw [setV_mid (hx := rfl)]
    simp only [Option.bind_some]
    rw [if_pos (by omega)]
    rfl
  | .str, _, x, pre, post, k, rest, h0, h1 => by
    have h1 : k + (1 : Nat) ≤ markTop := h1
    simp only [actsE, List.cons_append, List.nil_append, actRun, actRun1, explode, markE, List.append_assoc]
    rw [setV_mid (hx := rfl)]
    simp only [Option.bind_some]
    rw [if_pos (by omega)]
    rfl
  | .unit, _, x, pre, post, k, rest, _, _ => rfl
  | .pair a b, ht, x, pre, post, k, rest, h0, h1 => by
    simp only [Ty.mok, Bool.and_eq_true] at ht
    simp only [slotE] at h1
    have ha := actsE_run a ht.1 x.1 pre (explode b x.2 ++ post) k (actsE b (pre.length + a.cells) ++ rest) h0 (by omega)
    have hb := actsE_run b ht.2 x.2 (pre ++ explode a (markE a x.1 k).2) post (markE a x.1 k).1 rest (by rw [markE_fst]; omega) (by rw [markE_fst]; omega)
    rw [List.length_append, explode_len] at hb
    simp only [actsE, explode, markE, List.append_assoc] at ha hb ⊢
    rw [ha, hb]
  | .list t, ht, xs, pre, post, k, rest, h0, h1 => by
    have := sub_run (t := .list t) (mok_dok (t := .list t) ht) pre post xs k h1
    simp only [actsE, List.cons_append, List.nil_append, actRun, this, Option.bind_some]
    rfl

theorem eatS_run : ∀ (t : Ty), t.dok = true → ∀ (x : t.den) (pre post : List V) (k : Int) (acts rest : List Act1), eatS t pre.length acts = some rest → 0 ≤ k → k + slotS t x ≤ markTop →
    actRun acts (pre ++ explode t x ++ post, k) = actRun rest (pre ++ explode t (markS t x k).2 ++ post, (markS t x k).1)
  | .int _, _, x, pre, post, k, acts, rest, h, _, _ => by cases h; rfl
  | .bool, _, x, pre, post, k, acts, rest, h, _, _ => by cases h; rfl
  | .str, _, x, pre, post, k, acts, rest, h, _, _ => by cases h; rfl
  | .unit, _, x, pre, post, k, acts, rest, h, _, _ => by cases h; rfl
  | .list t, ht, xs, pre, post, k, acts, rest, h, h0, h1 => by
    rw [eatL_some h]
    simp only [actRun, sub_run ht pre post xs k h1, Option.bind_some]
  | .pair a b, ht, x, pre, post, k, acts, rest, h, h0, h1 => by
    unfold eatS at h
    split at h
    · rename_i r hr
      cases h
      rw [eatL_some hr]
      simp only [actRun, sub_run ht pre post x k h1, Option.bind_some]
    · obtain ⟨mid, hm, h⟩ := Option.bind_eq_some_iff.1 h
      simp only [Ty.dok, Bool.and_eq_true] at ht
      simp only [slotS] at h1
      have ha := eatS_run a ht.1 x.1 pre (explode b x.2 ++ post) k acts mid hm h0 (by omega)
      have hb := eatS_run b ht.2 x.2 (pre ++ explode a (markS a x.1 k).2) post (markS a x.1 k).1 mid rest (by rw [List.length_append, explode_len]; exact h) (by rw [markS_fst]; omega) (by rw [markS_fst]; omega)
      simp only [explode, markS, List.append_assoc] at ha hb ⊢
      rw [ha, hb]

end Go.Ab
