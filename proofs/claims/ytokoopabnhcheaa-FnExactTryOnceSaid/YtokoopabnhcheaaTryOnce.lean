/- 'laws.FnExactTryOnce' returns true for all arguments, and its arguments read as they did; no condition. -/
import Derived.Test.YtokoopabnhcheaaAb19
import Derived.Test.YtokoopabnhcheaaRows
import Derived.Laws.BitsLemmas
namespace Go.Proofs.Ytokoopabnhcheaa
open Go.Ab

abbrev I64 : Ty := .int .i64
abbrev TThrottle : Ty := .pair I64 (.pair I64 I64)

/-! ## spec.l15Lesser -/
def lesser (a b : Int) : Int := bif decide (a < b) then a else b
def cLesser : Ctr := ⟨41, [I64, I64], [I64], fun x => some (lesser x.1 x.2.1)⟩
theorem run41 (n : Nat) (a b : Int) (u : Unit) : run Try.prog [] [] (conOf []) Try.f41 (Try.f41.body.getD .skip) (packT [I64]) n (argsV [I64, I64] (a, b, u)) = bif decide (a < b) then some a else some b := by
  kernel_rfl
theorem func41' : Try.prog.funcs[41]? = some Try.f41 := by kernel_rfl
theorem ok41 : CtrOk Try.prog cLesser := by
  refine ctr_of_run (c := cLesser) func41' (code := Try.f41.body.getD .skip) (by kernel_rfl) (by kernel_rfl) (by kernel_rfl) (A := []) (I := []) conOf_nil ?_
  rintro ⟨a, b, u⟩ y hy
  refine ⟨0, (run41 0 a b u).trans ?_⟩
  rw [← hy]
  show _ = some (lesser a b)
  unfold lesser
  cases decide (a < b) <;> rfl

/-! ## spec.l1Pow2 -/
def A42 : List (List Nat × Ann) := [([0, 3], [.keep 0 0, .keep 0 3, .keep 0 4])]
theorem run42 (n : Nat) (a : Int) (u : Unit) : run Try.prog A42 [] (conOf []) Try.f42 (Try.f42.body.getD .skip) (packT [I64]) n (argsV [I64] (a, u)) =
  lam Try.prog A42 [] (conOf []) Try.f42 (Try.f42.body.getD .skip) (packT [I64]) n [0, 3] [.d I64 a, .d I64 (1 : Int), .d I64 (0 : Int)] := by
  kernel_rfl
theorem lam42 (n : Nat) (a o i : Int) : lam Try.prog A42 [] (conOf []) Try.f42 (Try.f42.body.getD .skip) (packT [I64]) (n + 1) [0, 3] [.d I64 a, .d I64 o, .d I64 i] =
  bif decide (i < a) then lam Try.prog A42 [] (conOf []) Try.f42 (Try.f42.body.getD .skip) (packT [I64]) n [0, 3] [.d I64 a, .d I64 (IntKind.i64.wrap (o * 2)), .d I64 (IntKind.i64.wrap (i + 1))] else some o := by
  kernel_rfl
def pow2 (a : Int) : Option Int := if 0 ≤ a ∧ a ≤ 60 then some ((2:Int) ^ a.toNat) else none
def cPow : Ctr := ⟨42, [I64], [I64], fun x => pow2 x.1⟩
theorem wrap64 {x : Int} (h : -9223372036854775808 ≤ x ∧ x ≤ 9223372036854775807) : IntKind.i64.wrap x = x := by
  rw [IntKind.wrap_i64]
  omega
theorem pow_le60 {k : Nat} (h : k ≤ 60) : (2 : Int) ^ k ≤ 1152921504606846976 := by
  have h1 : 2 ^ k ≤ 2 ^ 60 := Nat.pow_le_pow_right (by omega) h
  have h2 : ((2 ^ k : Nat) : Int) ≤ ((2 ^ 60 : Nat) : Int) := by exact_mod_cast h1
  rw [Int.natCast_pow] at h2
  exact h2
theorem pow_pos' (k : Nat) : (0 : Int) < 2 ^ k := by
  have h1 : 0 < 2 ^ k := Nat.pow_pos (by omega)
  have h2 : ((0 : Nat) : Int) < ((2 ^ k : Nat) : Int) := by exact_mod_cast h1
  rw [Int.natCast_pow] at h2
  exact h2
theorem loop42 (a : Nat) (ha : a ≤ 60) : ∀ (k i n : Nat), i + k = a → k < n → lam Try.prog A42 [] (conOf []) Try.f42 (Try.f42.body.getD .skip) (packT [I64]) n [0, 3] [.d I64 (a : Int), .d I64 ((2:Int) ^ i), .d I64 (i : Int)] = some ((2:Int) ^ a)
  | k, i, 0, _, hn => by omega
  | 0, i, n + 1, h, _ => by
    rw [lam42, decide_eq_false (by omega)]
    have : i = a := by omega
    subst this
    rfl
  | k + 1, i, n + 1, h, hn => by
    rw [lam42, decide_eq_true (by omega)]
    have e1 : IntKind.i64.wrap ((2:Int) ^ i * 2) = (2:Int) ^ (i + 1) := by
      rw [← Int.pow_succ]
      have h1 := pow_le60 (k := i + 1) (by omega)
      have h2 := pow_pos' (i + 1)
      exact wrap64 (by omega)
    have e2 : IntKind.i64.wrap ((i : Int) + 1) = ((i + 1 : Nat) : Int) := by rw [wrap64 (by omega)]; omega
    rw [e1, e2]
    exact loop42 a ha k (i + 1) n (by omega) (by omega)
theorem func42' : Try.prog.funcs[42]? = some Try.f42 := by kernel_rfl
theorem ok42 : CtrOk Try.prog cPow := by
  refine ctr_of_run (c := cPow) func42' (code := Try.f42.body.getD .skip) (by kernel_rfl) (by kernel_rfl) (by kernel_rfl) (A := A42) (I := []) conOf_nil ?_
  rintro ⟨a, u⟩ y hy
  have hy : pow2 a = some y := hy
  unfold pow2 at hy
  split at hy
  case isFalse => cases hy
  rename_i h
  cases hy
  refine ⟨a.toNat + 1, (run42 _ a u).trans ?_⟩
  have := loop42 a.toNat (by omega) a.toNat 0 (a.toNat + 1) (by omega) (by omega)
  rw [Int.toNat_of_nonneg h.1] at this
  exact this

/-! ## TryOnce -/
abbrev Thr := Int × Int × Int
abbrev bad : Thr × Int := ((0, 0, 0), -1)
def sureT (th : Thr) (time : Int) (K : Option (Thr × Int)) : Option (Thr × Int) :=
  bif decide (th.1 < 0) then some bad else bif decide (1000000 < th.1) then some bad else bif decide (th.2.1 < 0) then some bad else bif decide (100000003600 < th.2.1) then some bad else
  bif decide (th.2.2 < 0) then some bad else bif decide (100000003600 < th.2.2) then some bad else bif decide (time < th.2.2) then some bad else bif decide (100000000000 < time) then some bad else K
theorem sureT_ok (th : Thr) (time : Int) (K K' : Option (Thr × Int)) (h : 0 ≤ th.1 → th.1 ≤ 1000000 → 0 ≤ time → time ≤ 100000000000 → K = K') : sureT th time K = sureT th time K' := by
  unfold sureT
  cases h1 : decide (th.1 < 0) <;> try rfl
  cases h2 : decide (1000000 < th.1) <;> try rfl
  cases h3 : decide (th.2.1 < 0) <;> try rfl
  cases h4 : decide (100000003600 < th.2.1) <;> try rfl
  cases h5 : decide (th.2.2 < 0) <;> try rfl
  cases h6 : decide (100000003600 < th.2.2) <;> try rfl
  cases h7 : decide (time < th.2.2) <;> try rfl
  cases h8 : decide (100000000000 < time) <;> try rfl
  simp only [decide_eq_false_iff_not] at h1 h2 h5 h7 h8
  rw [h (by omega) (by omega) (by omega) (by omega)]

theorem run9 (n : Nat) (th : Thr) (time : Int) (right : Bool) (u : Unit) : run Try.prog [] [] (conOf [cLesser, cPow]) Try.f9 (Try.f9.body.getD .skip) (packT [TThrottle, I64]) n (argsV [TThrottle, I64, .bool] (th, time, right, u)) =
  sureT th time (bif decide (time < th.2.1) then some (th, 2) else bif right then some ((0, 0, time), 0) else
    bif decide (3 ≤ lesser (IntKind.i64.wrap (th.1 + 1)) 1000000) then
      Option.bind (pow2 (lesser (IntKind.i64.wrap (lesser (IntKind.i64.wrap (th.1 + 1)) 1000000 - 3)) 20)) fun (p : Int) => some ((lesser (IntKind.i64.wrap (th.1 + 1)) 1000000, IntKind.i64.wrap (time + lesser 3600 (IntKind.i64.wrap (10 * p))), time), 1)
    else some ((lesser (IntKind.i64.wrap (th.1 + 1)) 1000000, 0, time), 1)) := by
  kernel_rfl

def low (a b : Int) : Int := bif decide (b < a) then b else a
theorem run11 (n : Nat) (th : Thr) (time : Int) (right : Bool) (u : Unit) : run Try.prog [] [] (conOf []) Try.f11 (Try.f11.body.getD .skip) (packT [TThrottle, I64]) n (argsV [TThrottle, I64, .bool] (th, time, right, u)) =
  sureT th time (bif decide (time < th.2.1) then some (th, 2) else bif right then some ((0, 0, time), 0) else
    bif decide (3 ≤ low (IntKind.i64.wrap (th.1 + 1)) 1000000) then
      (bif decide (0 ≤ low (IntKind.i64.wrap (low (IntKind.i64.wrap (th.1 + 1)) 1000000 - 3)) 20) then
       some ((low (IntKind.i64.wrap (th.1 + 1)) 1000000, IntKind.i64.wrap (time + low 3600 (IntKind.i64.wrap (10 * 2 ^ (min (low (IntKind.i64.wrap (low (IntKind.i64.wrap (th.1 + 1)) 1000000 - 3)) 20).toNat 64)))), time), 1) else none)
    else some ((low (IntKind.i64.wrap (th.1 + 1)) 1000000, 0, time), 1)) := by
  kernel_rfl

theorem lesser_low (a b : Int) : lesser a b = low a b := by
  unfold lesser low
  cases h1 : decide (a < b) <;> cases h2 : decide (b < a) <;> simp only [decide_eq_false_iff_not, decide_eq_true_eq] at h1 h2 <;> simp only [cond_true, cond_false] <;> omega

def tryOnce (th : Thr) (time : Int) (right : Bool) : Thr × Int :=
  (sureT th time (bif decide (time < th.2.1) then some (th, 2) else bif right then some ((0, 0, time), 0) else
    bif decide (3 ≤ low (th.1 + 1) 1000000) then some ((low (th.1 + 1) 1000000, time + low 3600 (10 * 2 ^ (low (low (th.1 + 1) 1000000 - 3) 20).toNat), time), 1)
    else some ((low (th.1 + 1) 1000000, 0, time), 1))).getD bad

theorem sureT_some (th : Thr) (time : Int) (x : Thr × Int) : ∃ y, sureT th time (some x) = some y := by
  unfold sureT
  cases decide (th.1 < 0) <;> cases decide (1000000 < th.1) <;> cases decide (th.2.1 < 0) <;> cases decide (100000003600 < th.2.1) <;> cases decide (th.2.2 < 0) <;>
    cases decide (100000003600 < th.2.2) <;> cases decide (time < th.2.2) <;> cases decide (100000000000 < time) <;> exact ⟨_, rfl⟩

theorem low_cases (a b : Int) : (low a b = a ∧ a ≤ b) ∨ (low a b = b ∧ b < a) := by
  unfold low
  cases h : decide (b < a) <;> simp only [decide_eq_false_iff_not, decide_eq_true_eq] at h
  · exact .inl ⟨rfl, by omega⟩
  · exact .inr ⟨rfl, h⟩

theorem tryOnce_some (th : Thr) (time : Int) (right : Bool) : some (tryOnce th time right) = sureT th time (bif decide (time < th.2.1) then some (th, 2) else bif right then some ((0, 0, time), 0) else
    bif decide (3 ≤ low (th.1 + 1) 1000000) then some ((low (th.1 + 1) 1000000, time + low 3600 (10 * 2 ^ (low (low (th.1 + 1) 1000000 - 3) 20).toNat), time), 1)
    else some ((low (th.1 + 1) 1000000, 0, time), 1)) := by
  unfold tryOnce
  have : ∃ y, sureT th time (bif decide (time < th.2.1) then some (th, 2) else bif right then some ((0, 0, time), 0) else
    bif decide (3 ≤ low (th.1 + 1) 1000000) then some ((low (th.1 + 1) 1000000, time + low 3600 (10 * 2 ^ (low (low (th.1 + 1) 1000000 - 3) 20).toNat), time), 1)
    else some ((low (th.1 + 1) 1000000, 0, time), 1)) = some y := by
    cases decide (time < th.2.1) <;> cases right <;> cases decide (3 ≤ low (th.1 + 1) 1000000) <;> exact sureT_some _ _ _
  obtain ⟨y, hy⟩ := this
  rw [hy]
  rfl

theorem ten_wrap {e : Nat} (he : e ≤ 20) : IntKind.i64.wrap (10 * 2 ^ e) = 10 * 2 ^ e := by
  have h1 : 2 ^ e ≤ 2 ^ 20 := Nat.pow_le_pow_right (by omega) he
  have h2 : ((2 ^ e : Nat) : Int) ≤ ((2 ^ 20 : Nat) : Int) := by exact_mod_cast h1
  rw [Int.natCast_pow] at h2
  have h3 := pow_pos' e
  have h4 : (((2:Nat) ^ 20 : Nat) : Int) = 1048576 := rfl
  rw [h4] at h2
  have h2 : (2:Int) ^ e ≤ 1048576 := h2
  exact wrap64 (by omega)

theorem spec_tryOnce (n : Nat) (th : Thr) (time : Int) (right : Bool) (u : Unit) : run Try.prog [] [] (conOf [cLesser, cPow]) Try.f9 (Try.f9.body.getD .skip) (packT [TThrottle, I64]) n (argsV [TThrottle, I64, .bool] (th, time, right, u)) = some (tryOnce th time right) := by
  rw [run9, tryOnce_some]
  refine sureT_ok _ _ _ _ fun h1 h2 h3 h4 => ?_
  cases decide (time < th.2.1) <;> try rfl
  cases right <;> try rfl
  simp only [lesser_low, cond_false]
  rw [wrap64 (x := th.1 + 1) (by omega)]
  generalize hf : low (th.1 + 1) 1000000 = f
  have hf1 : 1 ≤ f ∧ f ≤ 1000000 := by
    rcases low_cases (th.1 + 1) 1000000 with ⟨e1, k1⟩ | ⟨e1, k1⟩ <;> rw [e1] at hf <;> omega
  cases hd : decide (3 ≤ f) with
  | false => rfl
  | true =>
    have hd := of_decide_eq_true hd
    rw [wrap64 (x := f - 3) (by omega)]
    simp only [cond_true]
    generalize hq : low _ 20 = q
    have hq20 : 0 ≤ q ∧ q ≤ 20 := by
      rcases low_cases _ 20 with ⟨e2, k2⟩ | ⟨e2, k2⟩ <;> rw [e2] at hq <;> omega
    have hp : pow2 q = some ((2:Int) ^ q.toNat) := by unfold pow2; rw [if_pos (by omega)]
    rw [hp]
    simp only [Option.bind_some]
    rw [ten_wrap (by omega)]
    have h5 := pow_pos' q.toNat
    rcases low_cases 3600 (10 * 2 ^ q.toNat) with ⟨e3, k3⟩ | ⟨e3, k3⟩ <;> rw [e3, wrap64 (by omega)]

theorem impl_tryOnce (n : Nat) (th : Thr) (time : Int) (right : Bool) (u : Unit) : run Try.prog [] [] (conOf []) Try.f11 (Try.f11.body.getD .skip) (packT [TThrottle, I64]) n (argsV [TThrottle, I64, .bool] (th, time, right, u)) = some (tryOnce th time right) := by
  rw [run11, tryOnce_some]
  refine sureT_ok _ _ _ _ fun h1 h2 h3 h4 => ?_
  cases decide (time < th.2.1) <;> try rfl
  cases right <;> try rfl
  simp only [cond_false]
  rw [wrap64 (x := th.1 + 1) (by omega)]
  generalize hf : low (th.1 + 1) 1000000 = f
  have hf1 : 1 ≤ f ∧ f ≤ 1000000 := by
    rcases low_cases (th.1 + 1) 1000000 with ⟨e1, k1⟩ | ⟨e1, k1⟩ <;> rw [e1] at hf <;> omega
  cases hd : decide (3 ≤ f) with
  | false => rfl
  | true =>
    have hd := of_decide_eq_true hd
    rw [wrap64 (x := f - 3) (by omega)]
    simp only [cond_true]
    generalize hq : low _ 20 = q
    have hq20 : 0 ≤ q ∧ q ≤ 20 := by
      rcases low_cases _ 20 with ⟨e2, k2⟩ | ⟨e2, k2⟩ <;> rw [e2] at hq <;> omega
    rw [decide_eq_true hq20.1]
    simp only [cond_true]
    rw [show min q.toNat 64 = q.toNat by omega, ten_wrap (by omega)]
    have h5 := pow_pos' q.toNat
    rcases low_cases 3600 (10 * 2 ^ q.toNat) with ⟨e3, k3⟩ | ⟨e3, k3⟩ <;> rw [e3, wrap64 (by omega)]

def cTryS : Ctr := ⟨9, [TThrottle, I64, .bool], [TThrottle, I64], fun x => some (tryOnce x.1 x.2.1 x.2.2.1)⟩
def cTryI : Ctr := ⟨11, [TThrottle, I64, .bool], [TThrottle, I64], fun x => some (tryOnce x.1 x.2.1 x.2.2.1)⟩
theorem ok9 : CtrOk Try.prog cTryS := by
  refine ctr_of_run (c := cTryS) (by kernel_rfl : Try.prog.funcs[9]? = some Try.f9) (code := Try.f9.body.getD .skip) (by kernel_rfl) (by kernel_rfl) (by kernel_rfl) (A := []) (I := []) (conOf_cons ok41 (conOf_cons ok42 conOf_nil)) ?_
  rintro ⟨th, time, right, u⟩ y hy
  exact ⟨0, (spec_tryOnce 0 th time right u).trans hy⟩
theorem ok11 : CtrOk Try.prog cTryI := by
  refine ctr_of_run (c := cTryI) (by kernel_rfl : Try.prog.funcs[11]? = some Try.f11) (code := Try.f11.body.getD .skip) (by kernel_rfl) (by kernel_rfl) (by kernel_rfl) (A := []) (I := []) conOf_nil ?_
  rintro ⟨th, time, right, u⟩ y hy
  exact ⟨0, (impl_tryOnce 0 th time right u).trans hy⟩

/-! ## the law -/
def cTo : Ctr := ⟨10, [TThrottle], [TThrottle], fun x => some x.1⟩
theorem run10 (n : Nat) (th : Thr) (u : Unit) : run Try.prog [] [] (conOf []) Try.f10 (Try.f10.body.getD .skip) (packT [TThrottle]) n (argsV [TThrottle] (th, u)) = some th := by kernel_rfl
theorem ok10 : CtrOk Try.prog cTo := by
  refine ctr_of_run (c := cTo) (by kernel_rfl : Try.prog.funcs[10]? = some Try.f10) (code := Try.f10.body.getD .skip) (by kernel_rfl) (by kernel_rfl) (by kernel_rfl) (A := []) (I := []) conOf_nil ?_
  rintro ⟨th, u⟩ y hy
  exact ⟨0, (run10 0 th u).trans hy⟩
def eqThr (a b : Thr) : Bool := bif !decide (a.1 = b.1) then false else bif !decide (a.2.1 = b.2.1) then false else bif !decide (a.2.2 = b.2.2) then false else true
def cEq : Ctr := ⟨12, [TThrottle, TThrottle], [.bool], fun x => some (eqThr x.1 x.2.1)⟩
theorem run12 (n : Nat) (a b : Thr) (u : Unit) : run Try.prog [] [] (conOf []) Try.f12 (Try.f12.body.getD .skip) (packT [.bool]) n (argsV [TThrottle, TThrottle] (a, b, u)) =
   bif !decide (a.1 = b.1) then some false else bif !decide (a.2.1 = b.2.1) then some false else bif !decide (a.2.2 = b.2.2) then some false else some true := by kernel_rfl
theorem ok12 : CtrOk Try.prog cEq := by
  refine ctr_of_run (c := cEq) (by kernel_rfl : Try.prog.funcs[12]? = some Try.f12) (code := Try.f12.body.getD .skip) (by kernel_rfl) (by kernel_rfl) (by kernel_rfl) (A := []) (I := []) conOf_nil ?_
  rintro ⟨a, b, u⟩ y hy
  refine ⟨0, (run12 0 a b u).trans (Eq.trans ?_ hy)⟩
  show _ = some (eqThr a b)
  unfold eqThr
  cases decide (a.1 = b.1) <;> cases decide (a.2.1 = b.2.1) <;> cases decide (a.2.2 = b.2.2) <;> rfl
theorem eqThr_self (a : Thr) : eqThr a a = true := by simp [eqThr]
def cs3 : List Ctr := [cTo, cTryS, cTryI, cEq]
theorem cs3_ok : ∀ c ∈ cs3, CtrOk Try.prog c := conOf_cons ok10 (conOf_cons ok9 (conOf_cons ok11 (conOf_cons ok12 conOf_nil)))
theorem run3 (n : Nat) (th : Thr) (time : Int) (right : Bool) (u : Unit) : run Try.prog [] [] (conOf cs3) Try.f3 (Try.f3.body.getD .skip) (packT [.bool]) n (argsV [TThrottle, I64, .bool] (th, time, right, u)) =
    bif !(eqThr (tryOnce th time right).1 (tryOnce th time right).1) then some false else bif !decide ((tryOnce th time right).2 = (tryOnce th time right).2) then some false else some true := by kernel_rfl
theorem own' : ownKnob Try.prog.godebug = none := by kernel_rfl
theorem laidOut' : laidOutB Try.prog = true := by kernel_rfl
set_option maxRecDepth 100000 in
theorem tryOnce_lifted (os : Os) (started : os.Started) (H : Type) (enc : TypeId × Value → H) :
    ReturnsInHanded {} Try.checked os 3 .any (Rows.fnExactTryOnceSpec.pre6 enc Try.prog Try.f3 Rows.fnExactTryOnceRow.domain false) (Rows.fnExactTryOnceSpec.post enc Try.prog Try.f3 false true false false) := by
  refine law_lifted (C := Try.checked) (f := 3) (fn := Try.f3) own' started (by kernel_rfl) (by kernel_rfl)
    (ChangeSpec.witness6 (enc := enc) (C := Try.checked) false ⟨#[], #[.agg #[.int .i64 0, .int .i64 0, .int .i64 0], .int .i64 0, .bool false], []⟩ 8 (by kernel_rfl) (by kernel_rfl) (by kernel_rfl) (by kernel_rfl))
    laidOut' (by kernel_rfl) rfl (tb := 4) (by kernel_rfl) (by kernel_rfl) ?_ (tys := [TThrottle, I64, .bool]) (by kernel_rfl) (c := Try.f3.body.getD .skip) (by kernel_rfl) (by kernel_rfl) (A := []) (I := []) (conOf_ok cs3_ok) ?_
  · intro ds hd
    have hd : ds.length = 3 := hd
    match ds, hd with
    | [a, b, c], _ => rfl
  · rintro ⟨th, time, right, u⟩ _
    refine ⟨0, (run3 0 th time right u).trans ?_⟩
    rw [eqThr_self, decide_eq_true rfl]
    rfl
theorem fnExactTryOnce_holds : Rows.FnExactTryOnceSaid :=
  OpenClaim.holds_of_wide 3 Try.f3 rfl rfl rfl rfl rfl rfl rfl ⟨rfl, rfl, rfl, rfl, rfl⟩ rfl rfl rfl rfl rfl (by kernel_rfl) (by kernel_rfl : Try.prog.funcs[3]? = some Try.f3) (by kernel_rfl)
    (of_decide_eq_true (by kernel_rfl)) (by unfold Func.isWrapper; first | (rw [if_pos (by decide +kernel)]; kernel_rfl) | (rw [if_neg (by decide +kernel)]; exact ⟨rfl, rfl⟩))
    (fun os started H enc _ => tryOnce_lifted os started H enc)
end Go.Proofs.Ytokoopabnhcheaa
