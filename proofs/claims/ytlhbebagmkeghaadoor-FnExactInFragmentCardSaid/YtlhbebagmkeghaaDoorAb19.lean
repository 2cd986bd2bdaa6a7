/-
  What is known of the functions that a function calls: a table of typed functions.
-/
import Derived.Test.YtlhbebagmkeghaaDoorAb18
namespace Go.Ab

structure Ctr where
  g : Nat
  tys : List Ty
  rets : List Ty
  f : denA tys → Option (denT rets)

def packA : (ts : List Ty) → List V → Option (denA ts)
  | [], [] => some ()
  | t :: ts, v :: vs => match packV t v, packA ts vs with
    | some x, some y => some (x, y)
    | _, _ => none
  | _, _ => none

def findC : List Ctr → Nat → Option Ctr
  | [], _ => none
  | c :: cs, g => bif Nat.beq c.g g then some c else findC cs g

def conOf (cs : List Ctr) {R : Type} : Nat → List V → (V → Option R) → Option R := fun g args K =>
  match findC cs g with
  | some c => match packA c.tys args with
    | some xs => match c.f xs with
      | some y => K (unpackT c.rets y)
      | none => none
    | none => none
  | none => none

def CtrOkG (P : Program) (gl : Nat → Option (List V)) (c : Ctr) : Prop := ∀ xs y, c.f xs = some y → AOKx P gl c.g (argsV c.tys xs) (unpackT c.rets y)
abbrev CtrOk (P : Program) (c : Ctr) : Prop := CtrOkG P noG c

/-- What is so whatever the package variables hold. -/
theorem CtrOkG.any {P : Program} {c : Ctr} (h : CtrOk P c) {gl : Nat → Option (List V)} : CtrOkG P gl c := by
  intro xs y hy
  obtain ⟨h1, h2⟩ := h xs y hy
  refine ⟨fun hlt => ?_, fun hge t ys hv => ?_⟩
  · obtain ⟨a1, a2, a3⟩ := h1 hlt
    exact ⟨a1, a2, fun M w vals _ => a3 M w vals (GlobOk.none _)⟩
  · obtain ⟨a1, a3⟩ := h2 hge t ys hv
    exact ⟨a1, fun M w vals _ => a3 M w vals (GlobOk.none _)⟩

theorem unpackL_le (n : Nat) : ∀ (ts : List Ty) (x : denT ts), V.le.leL n (unpackL ts x) = true
  | [], _ => rfl
  | [t], x => by simp only [unpackL, V.le.leL, Bool.and_true]; exact unpack_le n t x
  | t :: u :: ts, x => by
    simp only [unpackL, V.le.leL, Bool.and_eq_true]
    exact ⟨unpack_le n t x.1, unpackL_le n (u :: ts) x.2⟩

theorem unpackT_le (n : Nat) : ∀ (ts : List Ty) (x : denT ts), (unpackT ts x).le n = true
  | [], _ => rfl
  | [t], x => unpack_le n t x
  | t :: u :: ts, x => unpackL_le n (t :: u :: ts) x

theorem packA_rel {M : Me} : ∀ {ts : List Ty} {vs : List V} {us : List Value} {xs : denA ts}, packA ts vs = some xs → vs.length = us.length → (∀ (i : Nat) c u, vs[i]? = some c → us[i]? = some u → RelV M c u) →
    (argsV ts xs).length = us.length ∧ ∀ (i : Nat) c u, (argsV ts xs)[i]? = some c → us[i]? = some u → RelV M c u
  | [], [], us, xs, _, hl, _ => ⟨hl, fun i c u hc => by simp [argsV] at hc⟩
  | t :: ts, v :: vs, [], xs, h, hl, hr => by cases hl
  | t :: ts, v :: vs, u :: us, xs, h, hl, hr => by
    simp only [packA] at h
    split at h
    case h_2 => cases h
    rename_i x y hx hy
    cases h
    obtain ⟨k1, k2⟩ := packA_rel hy (by simpa using hl) (fun i c u hc hu => hr (i + 1) c u hc hu)
    refine ⟨by simp [argsV, k1], fun i c u' hc hu => ?_⟩
    cases i with
    | zero =>
      simp only [argsV, List.getElem?_cons_zero, Option.some.injEq] at hc hu
      subst hc; subst hu
      exact unpack_rel (packV_rel hx (hr 0 v u rfl rfl))
    | succ i => exact k2 i c u' (by simpa [argsV] using hc) (by simpa using hu)

theorem findC_mem : ∀ {cs : List Ctr} {g : Nat} {c : Ctr}, findC cs g = some c → c ∈ cs ∧ c.g = g
  | [], _, _, h => by cases h
  | c :: cs, g, c', h => by
    simp only [findC] at h
    cases hb : Nat.beq c.g g with
    | true =>
      rw [hb] at h
      simp only [cond_true, Option.some.injEq] at h
      subst h
      exact ⟨List.mem_cons_self, Nat.eq_of_beq_eq_true hb⟩
    | false =>
      rw [hb] at h
      obtain ⟨h1, h2⟩ := findC_mem (cs := cs) h
      exact ⟨List.mem_cons_of_mem _ h1, h2⟩

theorem conOf_ok {P : Program} {gl : Nat → Option (List V)} {cs : List Ctr} (h : ∀ c ∈ cs, CtrOkG P gl c) {R : Type} : ConOk P gl (R := R) (conOf cs) := by
  intro g args K r hc
  unfold conOf at hc
  split at hc
  case h_2 => cases hc
  rename_i c hf
  split at hc
  case h_2 => cases hc
  rename_i xs hxs
  split at hc
  case h_2 => cases hc
  rename_i y hy
  obtain ⟨hm, hg⟩ := findC_mem hf
  subst hg
  refine ⟨_, hc, fun hlt => ?_, fun hge t ys hv => ?_⟩
  · obtain ⟨a1, a2, a3⟩ := (h c hm xs y hy).1 hlt
    refine ⟨a1, a2, fun M w vals hG hF hl hr => ?_⟩
    obtain ⟨k1, k2⟩ := packA_rel hxs hl hr
    exact a3 M w vals hG hF k1 k2
  · obtain ⟨a1, a3⟩ := (h c hm xs y hy).2 hge t ys hv
    refine ⟨a1, fun M w vals hG hF hl hr => ?_⟩
    obtain ⟨k1, k2⟩ := packA_rel hxs hl hr
    exact a3 M w vals hG hF k1 k2

theorem conOf_nil {P : Program} {gl : Nat → Option (List V)} : ∀ c ∈ ([] : List Ctr), CtrOkG P gl c := fun c h => by cases h

theorem conOf_cons {P : Program} {gl : Nat → Option (List V)} {c : Ctr} {cs : List Ctr} (h : CtrOkG P gl c) (hs : ∀ c ∈ cs, CtrOkG P gl c) : ∀ x ∈ c :: cs, CtrOkG P gl x := by
  intro x hx
  rcases List.mem_cons.1 hx with rfl | hx
  · exact h
  · exact hs x hx

theorem explode_d : ∀ (t : Ty) (x : t.den), ∀ c ∈ explode t x, ∃ (t' : Ty) (x' : t'.den), c = .d t' x'
  | .pair a b, x, c, hc => by
    rcases List.mem_append.1 hc with hc | hc
    · exact explode_d a x.1 c hc
    · exact explode_d b x.2 c hc
  | .unit, _, c, hc => by cases hc
  | .int k, x, c, hc => by rw [List.mem_singleton.1 hc]; exact ⟨_, _, rfl⟩
  | .bool, x, c, hc => by rw [List.mem_singleton.1 hc]; exact ⟨_, _, rfl⟩
  | .str, x, c, hc => by rw [List.mem_singleton.1 hc]; exact ⟨_, _, rfl⟩
  | .list t, x, c, hc => by rw [List.mem_singleton.1 hc]; exact ⟨_, _, rfl⟩
  | .map k e, x, c, hc => by rw [List.mem_singleton.1 hc]; exact ⟨_, _, rfl⟩
  | .tree a, x, c, hc => by
    rcases List.mem_append.1 hc with hc | hc
    · exact explode_d a x.val c hc
    · rw [List.mem_singleton.1 hc]; exact ⟨_, _, rfl⟩

theorem d_F {M M' : Me} (hF : M'.F = M.F) {t : Ty} {x : t.den} {u : Value} (h : RelV M (.d t x) u) : RelV M' (.d t x) u := by
  cases h with
  | d _ _ _ hd => exact .d _ _ _ (by rw [hF]; exact hd)

theorem unpack_F {M M' : Me} (hF : M'.F = M.F) {t : Ty} {x : t.den} {u : Value} (h : RelV M (unpack t x) u) : RelV M' (unpack t x) u := by
  have agg : ∀ cs, (∀ c ∈ cs, ∃ (t' : Ty) (x' : t'.den), c = .d t' x') → RelV M (.agg cs) u → RelV M' (.agg cs) u := by
    intro cs hcs h
    cases h with
    | agg _ arr hl hr h1 =>
      refine .agg _ arr hl (fun i c u hc hu => ?_) h1
      obtain ⟨t', x', rfl⟩ := hcs c (List.mem_of_getElem? hc)
      exact d_F hF (hr i _ u hc hu)
  cases t with
  | pair a b => exact agg _ (explode_d (.pair a b) x) h
  | unit => exact agg _ (fun c hc => by cases hc) h
  | int k => exact d_F hF h
  | bool => exact d_F hF h
  | str => exact d_F hF h
  | list t => exact d_F hF h
  | map k e => exact d_F hF h
  | tree a => exact agg _ (explode_d (.tree a) x) h

theorem argsV_unpack : ∀ (ts : List Ty) (xs : denA ts), ∀ c ∈ argsV ts xs, ∃ (t : Ty) (x : t.den), c = unpack t x
  | [], _, c, hc => by cases hc
  | t :: ts, x, c, hc => by
    rcases List.mem_cons.1 hc with rfl | hc
    · exact ⟨t, x.1, rfl⟩
    · exact argsV_unpack ts x.2 c hc

/-- A function of the program that the evaluator was seen to compute. -/
theorem ctr_of_run {P : Program} {gl : Nat → Option (List V)} {c : Ctr} (hlt : Nat.blt c.g ownMark = true) {fn : Func} {code : Code} (hf : P.funcs[c.g]? = some fn) (hb : fn.body = some code) (he : entersB P c.g = true) (hres : c.rets.length = fn.results.size) {A : List (List Nat × Ann)} {I : List (List Nat × Nat)} {cs : List Ctr}
    (hcs : ∀ x ∈ cs, CtrOkG P gl x) (hrun : ∀ xs y, c.f xs = some y → ∃ n, runE P gl A I (conOf cs) fn code (endD P fn (packT c.rets)) n (argsV c.tys xs) = some y) : CtrOkG P gl c := by
  intro xs y hy
  obtain ⟨n, hn⟩ := hrun xs y hy
  refine ⟨fun _ => ?_, fun hge => absurd (Nat.lt_of_lt_of_le (Nat.le_of_ble_eq_true hlt) hge) (Nat.lt_irrefl _)⟩
  refine ⟨he, fun n => unpackT_le n _ _, fun M w vals hG hF hl hr => ?_⟩
  refine (fun_sound hf hb (conOf_ok hcs) hres hn (F := M.F) hG hF hl ?_ (argsV_le 0 _ _)).mono fun e w' ⟨u, F', h1, h2, h3, h4, h5⟩ => ⟨u, F', h1, h2, h3, h4, h5 _ (Snap.le.refl _)⟩
  intro i c' u hc hu M' hM'
  obtain ⟨t, x, rfl⟩ := argsV_unpack _ _ c' (List.mem_of_getElem? hc)
  exact unpack_F hM' (hr i _ u hc hu)

/-- The contract of a function whose result is the caller's own. -/
def ownOf (g : Nat) (tys : List Ty) (t : Ty) (f : denA tys → Option (List t.den)) : Ctr := ⟨g + ownMark, tys, [.list t], f⟩

theorem ctr_of_own {P : Program} {gl : Nat → Option (List V)} {g : Nat} {tys : List Ty} {t : Ty} {f : denA tys → Option (List t.den)} {fn : Func} {code : Code} (hf : P.funcs[g]? = some fn) (hb : fn.body = some code) (he : entersB P g = true) {A : List (List Nat × Ann)} {I : List (List Nat × Nat)} {cs : List Ctr}
    (hcs : ∀ x ∈ cs, CtrOkG P gl x) (hrun : ∀ xs y, f xs = some y → ∃ n, runE P gl A I (conOf cs) fn code (endO P fn t) n (argsV tys xs) = some y) : CtrOkG P gl (ownOf g tys t f) := by
  intro xs y hy
  obtain ⟨n, hn⟩ := hrun xs y hy
  refine ⟨fun hlt => absurd hlt (Nat.not_lt.2 (Nat.le_add_left _ _)), fun _ t' ys hv => ?_⟩
  have hv : V.d (.list t) y = .d (.list t') ys := hv
  cases hv
  refine ⟨by rw [show (ownOf g tys t f).g - ownMark = g from Nat.add_sub_cancel _ _]; exact he, fun M w vals hG hF hl hr => ?_⟩
  rw [show (ownOf g tys t f).g - ownMark = g from Nat.add_sub_cancel _ _]
  refine own_sound hf hb (conOf_ok hcs) hn (F := M.F) hG hF hl ?_ (argsV_le 0 _ _)
  intro i c' u hc hu M' hM'
  obtain ⟨t, x, rfl⟩ := argsV_unpack _ _ c' (List.mem_of_getElem? hc)
  exact unpack_F hM' (hr i _ u hc hu)

end Go.Ab
