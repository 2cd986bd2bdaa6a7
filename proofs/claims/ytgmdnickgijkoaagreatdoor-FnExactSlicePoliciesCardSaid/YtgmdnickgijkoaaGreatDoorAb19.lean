import Derived.Test.YtgmdnickgijkoaaGreatDoorAb18
import Derived.Test.YtgmdnickgijkoaaGreatDoorAb16d
namespace Go.Ab
structure Ctr where
 g : Nat
 tys : List Ty
 rets : List Ty
 f : Ql3 tys → Option (Qgr rets)
def QsG : (ts : List Ty) → List V → Option (Ql3 ts)
 | [], [] => some ()
 | t :: ts, v :: vs => match Gu t v, QsG ts vs with
  | some x, some y => some (x, y)
  | _, _ => none
 | _, _ => none
def QEa : List Ctr → Nat → Option Ctr
 | [], _ => none
 | c :: cs, g => bif Nat.beq c.g g then some c else QEa cs g
def Qn (cs : List Ctr) {R : Type} : Nat → List V → (V → Option R) → Option R := fun g args K =>
 match QEa cs g with
 | some c => match QsG c.tys args with
  | some xs => match c.f xs with
   | some y => K (Qct c.rets y)
   | none => none
  | none => none
 | none => none
def CtrOkG (P : Program) (gl : Nat → Option (List V)) (c : Ctr) : Prop := ∀ xs y, c.f xs = some y → QGw P gl c.g (Qu c.tys xs) (Qct c.rets y)
abbrev Qg (P : Program) (c : Ctr) : Prop := CtrOkG P noG c
theorem CtrOkG.any {P : Program} {c : Ctr} (h : Qg P c) {gl : Nat → Option (List V)} : CtrOkG P gl c := by
 intro xs y hy
 obtain ⟨h1, h2, h3, h4⟩ := h xs y hy
 refine ⟨fun hlt => ?_, fun hge hlt t ys hv => ?_, fun hge hlt => ?_, h4⟩
 ·obtain ⟨a1, a2, a3⟩ := h1 hlt
  exact ⟨a1, a2, fun M w vals _ => a3 M w vals (GlobOk.none _)⟩
 ·obtain ⟨a1, a3⟩ := h2 hge hlt t ys hv
  exact ⟨a1, fun M w vals _ => a3 M w vals (GlobOk.none _)⟩
 ·obtain ⟨a1, a3⟩ := h3 hge hlt
  exact ⟨a1, fun M w vals _ => a3 M w vals (GlobOk.none _)⟩
theorem Qzm (n : Nat) : ∀ (ts : List Ty) (x : Qgr ts), V.le.leL n (Xt ts x) = true
 | [], _ => rfl
 | [t], x => by simp only [Xt, V.le.leL, Bool.and_true]; exact Ee n t x
 | t :: u :: ts, x => by
  simp only [Xt, V.le.leL, Bool.and_eq_true]
  exact ⟨Ee n t x.1, Qzm n (u :: ts) x.2⟩
theorem QDz (n : Nat) : ∀ (ts : List Ty) (x : Qgr ts), (Qct ts x).le n = true
 | [], _ => rfl
 | [t], x => Ee n t x
 | t :: u :: ts, x => Qzm n (t :: u :: ts) x
theorem QoP {M : Me} : ∀ {ts : List Ty} {vs : List V} {us : List Value} {xs : Ql3 ts}, QsG ts vs = some xs → vs.length = us.length → (∀ (i : Nat) c u, vs[i]? = some c → us[i]? = some u → RelV M c u) →
  (Qu ts xs).length = us.length ∧ ∀ (i : Nat) c u, (Qu ts xs)[i]? = some c → us[i]? = some u → RelV M c u
 | [], [], us, xs, _, hl, _ => ⟨hl, fun i c u hc => by simp [Qu] at hc⟩
 | t :: ts, v :: vs, [], xs, h, hl, hr => by cases hl
 | t :: ts, v :: vs, u :: us, xs, h, hl, hr => by
  simp only [QsG] at h
  split at h
  case h_2 => cases h
  rename_i x y hx hy
  cases h
  obtain ⟨k1, k2⟩ := QoP hy (by simpa using hl) (fun i c u hc hu => hr (i + 1) c u hc hu)
  refine ⟨by simp [Qu, k1], fun i c u' hc hu => ?_⟩
  cases i with
  | zero =>
   simp only [Qu, List.getElem?_cons_zero, Option.some.injEq] at hc hu
   subst hc; subst hu
   exact WH (Ef hx (hr 0 v u rfl rfl))
  | succ i => exact k2 i c u' (by simpa [Qu] using hc) (by simpa using hu)
theorem QA6 : ∀ {cs : List Ctr} {g : Nat} {c : Ctr}, QEa cs g = some c → c ∈ cs ∧ c.g = g
 | [], _, _, h => by cases h
 | c :: cs, g, c', h => by
  simp only [QEa] at h
  cases hb : Nat.beq c.g g with
  | true =>
   rw [hb] at h
   simp only [cond_true, Option.some.injEq] at h
   subst h
   exact ⟨List.mem_cons_self, Nat.eq_of_beq_eq_true hb⟩
  | false =>
   rw [hb] at h
   obtain ⟨h1, h2⟩ := QA6 (cs := cs) h
   exact ⟨List.mem_cons_of_mem _ h1, h2⟩
theorem QoQ {t : Ty} {x : t.den} {t' : Ty} {y : t'.den} (h : XO t (.d t' y) = some x) : V.d t' y = .d t x := by
 have key : cast? t' t y = some x := by
  cases t <;> exact h
 unfold cast? at key
 split at key
 ·rename_i e _
  subst e
  simp only [Option.some.injEq] at key
  subst key
  rfl
 ·cases key
theorem Qh4 {t : Ty} {x : t.den} {v : V} (h : XO t v = some x) (hv : v.dok1 = true) : t.dok = true := by
 cases v with
 | d t' y =>
  have := QoQ h
  cases this
  exact hv
 | _ => simp [V.dok1] at hv
theorem QsH : ∀ {t : Ty} {x : t.den} {vs : List V}, Yy t vs = some x → vs.all V.dok1 = true → t.dok = true
 | .pair a b, x, vs, h, hv => by
  simp only [Yy] at h
  split at h
  ·rename_i y z hy hz
   have h1 := List.all_eq_true.1 hv
   simp only [Ty.dok, Bool.and_eq_true]
   exact ⟨QsH hy (List.all_eq_true.2 fun c hc => h1 c (List.mem_of_mem_take hc)), QsH hz (List.all_eq_true.2 fun c hc => h1 c (List.mem_of_mem_drop hc))⟩
  ·cases h
 | .unit, _, _, _, _ => rfl
 | .int _, _, _, _, _ => rfl
 | .bool, _, _, _, _ => rfl
 | .str, _, _, _, _ => rfl
 | .list t, x, [], h, _ => by simp [Yy] at h
 | .list t, x, [v], h, hv => Qh4 (t := .list t) (by simpa [Yy] using h) (by simpa using hv)
 | .list t, x, _ :: _ :: _, h, _ => by simp [Yy] at h
 | .map k e, x, [], h, _ => by simp [Yy] at h
 | .map k e, x, [v], h, hv => Qh4 (t := .map k e) (by simpa [Yy] using h) (by simpa using hv)
 | .map k e, x, _ :: _ :: _, h, _ => by simp [Yy] at h
 | .tree a, x, vs, h, hv => by
  simp only [Yy] at h
  split at h
  ·rename_i v k hv' hk
   rw [Option.map_eq_some_iff] at h
   obtain ⟨ks, hks, rfl⟩ := h
   have hm : k ∈ vs.drop a.cells := by rw [hk]; simp
   have := Qh4 hks (List.all_eq_true.1 hv k (List.mem_of_mem_drop hm))
   exact this
  ·cases h
theorem QEG {t : Ty} {x : t.den} {v : V} (h : Gu t v = some x) (hv : v.dokV = true) : t.dok = true := by
 cases t with
 | pair a b =>
  cases v <;> first
   | (simp [Gu] at h; done)
   | exact QsH h hv
 | unit => rfl
 | tree a =>
  cases v <;> first
   | (simp [Gu] at h; done)
   | exact QsH h hv
 | map k e =>
  refine Qh4 (v := v) (by simpa [Gu] using h) ?_
  cases v <;> first | exact hv | (simp [Gu, XO] at h)
 | list t =>
  refine Qh4 (v := v) (by simpa [Gu] using h) ?_
  cases v <;> first | exact hv | (simp [Gu, XO] at h)
 | int k => rfl
 | bool => rfl
 | str => rfl
theorem QFA {P : Program} {g : Nat} {v : V} {k k' : Int} {b : V} : ∀ {tys : List Ty} {xs : Ql3 tys} {x : V}, QsG tys [x, .d (.int .i64) k] = some xs → v = .tup [.d (.int .i64) k', b] → QGv P g (Qu tys xs) v →
  Vm P g = true ∧ ∀ (w : World) (u : Value) (bs : List Nat), x.dokV = true → ZV w x u bs → bs.Nodup → inK .i64 k = true →
   Calls P g #[u, .int .i64 k] w fun e w' => e = .returned (.int .i64 k') ∧ inK .i64 k' = true ∧ ZV w' b u bs ∧ BelowX bs w w'
 | [], _, _, h, _, _ => by simp [QsG] at h
 | [_], _, _, h, _, _ => by simp [QsG] at h
 | _ :: _ :: _ :: _, _, _, h, _, _ => by simp [QsG] at h
 | [t1, t2], xs, x, h, hv, hA => by
  simp only [QsG] at h
  split at h
  case h_2 => cases h
  rename_i x0 z hx0 hz
  cases h
  split at hz
  case h_2 => cases hz
  rename_i k0 q hk0 hq
  cases hz
  have hk : G5 t2 k0 = .d (.int .i64) k := by
   cases t2 with
   | pair a b => simp [Gu] at hk0
   | unit => simp [Gu] at hk0
   | tree a => simp [Gu] at hk0
   | int kk => exact (QoQ (t := .int kk) (t' := .int .i64) (y := k) hk0).symm
   | bool => exact (QoQ (t := .bool) (t' := .int .i64) (y := k) hk0).symm
   | str => exact (QoQ (t := .str) (t' := .int .i64) (y := k) hk0).symm
   | list t => exact (QoQ (t := .list t) (t' := .int .i64) (y := k) hk0).symm
   | map a b => exact (QoQ (t := .map a b) (t' := .int .i64) (y := k) hk0).symm
  have ha : Qu [t1, t2] (x0, (k0, q)) = [G5 t1 x0, .d (.int .i64) k] := by simp only [Qu, hk]
  obtain ⟨h1, h2⟩ := hA (G5 t1 x0) k k' b ha hv
  refine ⟨h1, fun w u bs hdk hd hn hik => ?_⟩
  have hdok := QEG hx0 hdk
  refine h2 w u bs ?_ (QmQ (QjX hdok hx0 hd)) hn hik
  clear h2 hd hdk hA ha hx0
  have ex : ∀ (t : Ty) (x : t.den), t.dok = true → (Qq t x).all V.dok1 = true := by
   intro t
   induction t with
   | int k => intro x _; rfl
   | bool => intro x _; rfl
   | str => intro x _; rfl
   | unit => intro x _; rfl
   | list t _ => intro x h; simp [Qq, V.dok1, h]
   | map k e _ _ => intro x h; cases h
   | tree a _ => intro x h; cases h
   | pair a b iha ihb =>
    intro x h
    simp only [Ty.dok, Bool.and_eq_true] at h
    simp only [Qq, List.all_append, Bool.and_eq_true]
    exact ⟨iha x.1 h.1, ihb x.2 h.2⟩
  cases t1 with
  | pair a b => exact ex _ x0 hdok
  | unit => rfl
  | tree a => cases hdok
  | map k e => cases hdok
  | list t => exact hdok
  | int k => rfl
  | bool => rfl
  | str => rfl
theorem Qfb : JJ ≤ YS ∧ JJ ≤ Ua ∧ YS ≤ Ua := by
 unfold JJ YS Ua
 omega
theorem QsI {P : Program} {gl : Nat → Option (List V)} {cs : List Ctr} (h : ∀ c ∈ cs, CtrOkG P gl c) {R : Type} : QwP P gl (R := R) (Qn cs) := by
 intro g args K r hc
 unfold Qn at hc
 split at hc
 case h_2 => cases hc
 rename_i c hf
 split at hc
 case h_2 => cases hc
 rename_i xs hxs
 split at hc
 case h_2 => cases hc
 rename_i y hy
 obtain ⟨hm, hg⟩ := QA6 hf
 subst hg
 refine ⟨_, hc, fun hlt => ?_, fun hge hlt t ys hv => ?_, fun hge hlt => ?_, fun hge x k k' b ha hv => ?_⟩
 ·obtain ⟨a1, a2, a3⟩ := (h c hm xs y hy).1 hlt
  refine ⟨a1, a2, fun M w vals hG hF hl hr => ?_⟩
  obtain ⟨k1, k2⟩ := QoP hxs hl hr
  exact a3 M w vals hG hF k1 k2
 ·obtain ⟨a1, a3⟩ := (h c hm xs y hy).2.1 hge hlt t ys hv
  refine ⟨a1, fun M w vals hG hF hl hr => ?_⟩
  obtain ⟨k1, k2⟩ := QoP hxs hl hr
  exact a3 M w vals hG hF k1 k2
 ·obtain ⟨a1, a3⟩ := (h c hm xs y hy).2.2.1 hge hlt
  refine ⟨a1, fun M w vals hG hF hl hr => ?_⟩
  obtain ⟨k1, k2⟩ := QoP hxs hl hr
  exact a3 M w vals hG hF k1 k2
 ·subst ha; exact QFA hxs hv ((h c hm xs y hy).2.2.2 hge)
theorem Qi {P : Program} {gl : Nat → Option (List V)} : ∀ c ∈ ([] : List Ctr), CtrOkG P gl c := fun c h => by cases h
theorem Qb {P : Program} {gl : Nat → Option (List V)} {c : Ctr} {cs : List Ctr} (h : CtrOkG P gl c) (hs : ∀ c ∈ cs, CtrOkG P gl c) : ∀ x ∈ c :: cs, CtrOkG P gl x := by
 intro x hx
 rcases List.mem_cons.1 hx with rfl | hx
 ·exact h
 ·exact hs x hx
theorem Qh5 : ∀ (t : Ty) (x : t.den), ∀ c ∈ Qq t x, ∃ (t' : Ty) (x' : t'.den), c = .d t' x'
 | .pair a b, x, c, hc => by
  rcases List.mem_append.1 hc with hc | hc
  ·exact Qh5 a x.1 c hc
  ·exact Qh5 b x.2 c hc
 | .unit, _, c, hc => by cases hc
 | .int k, x, c, hc => by rw [List.mem_singleton.1 hc]; exact ⟨_, _, rfl⟩
 | .bool, x, c, hc => by rw [List.mem_singleton.1 hc]; exact ⟨_, _, rfl⟩
 | .str, x, c, hc => by rw [List.mem_singleton.1 hc]; exact ⟨_, _, rfl⟩
 | .list t, x, c, hc => by rw [List.mem_singleton.1 hc]; exact ⟨_, _, rfl⟩
 | .map k e, x, c, hc => by rw [List.mem_singleton.1 hc]; exact ⟨_, _, rfl⟩
 | .tree a, x, c, hc => by
  rcases List.mem_append.1 hc with hc | hc
  ·exact Qh5 a x.val c hc
  ·rw [List.mem_singleton.1 hc]; exact ⟨_, _, rfl⟩
theorem d_F {M M' : Me} (hF : M'.F = M.F) {t : Ty} {x : t.den} {u : Value} (h : RelV M (.d t x) u) : RelV M' (.d t x) u := by
 cases h with
 | d _ _ _ hd => exact .d _ _ _ (by rw [hF]; exact hd)
theorem Qzn {M M' : Me} (hF : M'.F = M.F) {t : Ty} {x : t.den} {u : Value} (h : RelV M (G5 t x) u) : RelV M' (G5 t x) u := by
 have agg : ∀ cs, (∀ c ∈ cs, ∃ (t' : Ty) (x' : t'.den), c = .d t' x') → RelV M (.agg cs) u → RelV M' (.agg cs) u := by
  intro cs hcs h
  cases h with
  | agg _ arr hl hr h1 =>
   refine .agg _ arr hl (fun i c u hc hu => ?_) h1
   obtain ⟨t', x', rfl⟩ := hcs c (List.mem_of_getElem? hc)
   exact d_F hF (hr i _ u hc hu)
 cases t with
 | pair a b => exact agg _ (Qh5 (.pair a b) x) h
 | unit => exact agg _ (fun c hc => by cases hc) h
 | int k => exact d_F hF h
 | bool => exact d_F hF h
 | str => exact d_F hF h
 | list t => exact d_F hF h
 | map k e => exact d_F hF h
 | tree a => exact agg _ (Qh5 (.tree a) x) h
theorem QeL : ∀ (ts : List Ty) (xs : Ql3 ts), ∀ c ∈ Qu ts xs, ∃ (t : Ty) (x : t.den), c = G5 t x
 | [], _, c, hc => by cases hc
 | t :: ts, x, c, hc => by
  rcases List.mem_cons.1 hc with rfl | hc
  ·exact ⟨t, x.1, rfl⟩
  ·exact QeL ts x.2 c hc
theorem Qh {P : Program} {gl : Nat → Option (List V)} {c : Ctr} (hlt : Nat.blt c.g JJ = true) {fn : Func} {code : Code} (hf : P.funcs[c.g]? = some fn) (hb : fn.body = some code) (he : Vm P c.g = true) (hres : c.rets.length = fn.results.size) {A : List (List Nat × Ann)} {I : List (List Nat × Nat)} {cs : List Ctr}
  (hcs : ∀ x ∈ cs, CtrOkG P gl x) (hrun : ∀ xs y, c.f xs = some y → ∃ n, Er P gl A I (Qn cs) fn code (QjS P fn (Qp c.rets)) n (Qu c.tys xs) = some y) : CtrOkG P gl c := by
 intro xs y hy
 obtain ⟨n, hn⟩ := hrun xs y hy
 have hlt := QmU hlt
 have hnl : ∀ {m : Nat}, JJ ≤ m → m ≤ c.g → False := fun h1 h2 => Nat.lt_irrefl _ (Nat.lt_of_lt_of_le hlt (Nat.le_trans h1 h2))
 refine ⟨fun _ => ?_, fun hge => (hnl (Nat.le_refl _) hge).elim, fun hge => (hnl Qfb.1 hge).elim, fun hge => (hnl Qfb.2.1 hge).elim⟩
 refine ⟨he, fun n => QDz n _ _, fun M w vals hG hF hl hr => ?_⟩
 refine (QA4 hf hb (QsI hcs) hres hn (F := M.F) hG hF hl ?_ (Qh3 0 _ _)).mono fun e w' ⟨u, F', h1, h2, h3, h4, h5⟩ => ⟨u, F', h1, h2, h3, h4, h5 _ (Snap.le.refl _)⟩
 intro i c' u hc hu M' hM'
 obtain ⟨t, x, rfl⟩ := QeL _ _ c' (List.mem_of_getElem? hc)
 exact Qzn hM' (hr i _ u hc hu)
def QA7 (g : Nat) (tys : List Ty) (t : Ty) (f : Ql3 tys → Option (List t.den)) : Ctr := ⟨g + JJ, tys, [.list t], f⟩
theorem QDA {P : Program} {gl : Nat → Option (List V)} {g : Nat} {tys : List Ty} {t : Ty} {f : Ql3 tys → Option (List t.den)} (hlt : Nat.blt g JJ = true) {fn : Func} {code : Code} (hf : P.funcs[g]? = some fn) (hb : fn.body = some code) (he : Vm P g = true) {A : List (List Nat × Ann)} {I : List (List Nat × Nat)} {cs : List Ctr}
  (hcs : ∀ x ∈ cs, CtrOkG P gl x) (hrun : ∀ xs y, f xs = some y → ∃ n, Er P gl A I (Qn cs) fn code (QBn P fn t) n (Qu tys xs) = some y) : CtrOkG P gl (QA7 g tys t f) := by
 intro xs y hy
 obtain ⟨n, hn⟩ := hrun xs y hy
 have hm := (QsA (QmU hlt)).1
 refine ⟨fun hlt => absurd hlt (Nat.not_lt.2 (Nat.le_add_left _ _)), fun _ _ t' ys hv => ?_, fun h1 => (Nat.lt_irrefl _ (Nat.lt_of_lt_of_le hm h1)).elim, fun h1 => (Nat.lt_irrefl _ (Nat.lt_of_lt_of_le hm (Nat.le_trans Qfb.2.2 h1))).elim⟩
 have hv : V.d (.list t) y = .d (.list t') ys := hv
 cases hv
 refine ⟨by rw [show (QA7 g tys t f).g - JJ = g from Nat.add_sub_cancel _ _]; exact he, fun M w vals hG hF hl hr => ?_⟩
 rw [show (QA7 g tys t f).g - JJ = g from Nat.add_sub_cancel _ _]
 refine QEC hf hb (QsI hcs) hn (F := M.F) hG hF hl ?_ (Qh3 0 _ _)
 intro i c' u hc hu M' hM'
 obtain ⟨t, x, rfl⟩ := QeL _ _ c' (List.mem_of_getElem? hc)
 exact Qzn hM' (hr i _ u hc hu)
def HG (g : Nat) (tys rets : List Ty) (f : Ql3 tys → Option (Qgr rets)) : Ctr := ⟨g + YS, tys, rets, f⟩
theorem YM {P : Program} {gl : Nat → Option (List V)} {g : Nat} {tys rets : List Ty} {f : Ql3 tys → Option (Qgr rets)} (hlt : Nat.blt g JJ = true) {fn : Func} {code : Code} (hf : P.funcs[g]? = some fn) (hb : fn.body = some code) (he : Vm P g = true) {A : List (List Nat × Ann)} {I : List (List Nat × Nat)} {cs : List Ctr}
  (hcs : ∀ x ∈ cs, CtrOkG P gl x) (hrun : ∀ xs y, f xs = some y → ∃ n, Er P gl A I (Qn cs) fn code (Qbf P fn rets) n (Qu tys xs) = some y) : CtrOkG P gl (HG g tys rets f) := by
 intro xs y hy
 obtain ⟨n, hn⟩ := hrun xs y hy
 obtain ⟨m1, m2⟩ := QsA (QmU hlt)
 have hg : (HG g tys rets f).g = g + YS := rfl
 have hge : YS ≤ g + YS := Nat.le_add_left _ _
 rw [hg]
 refine ⟨fun h1 => (Nat.lt_irrefl _ (Nat.lt_of_lt_of_le h1 (Nat.le_trans Qfb.1 hge))).elim, fun _ h1 => (Nat.lt_irrefl _ (Nat.lt_of_lt_of_le h1 hge)).elim, fun _ _ => ?_, fun h1 => (Nat.lt_irrefl _ (Nat.lt_of_lt_of_le m2 h1)).elim⟩
 rw [Nat.add_sub_cancel]
 refine ⟨he, fun M w vals hG hF hl hr => ?_⟩
 refine QDy hf hb (QsI hcs) hn (F := M.F) hG hF hl ?_ (Qh3 0 _ _)
 intro i c' u hc hu M' hM'
 obtain ⟨t, x, rfl⟩ := QeL _ _ c' (List.mem_of_getElem? hc)
 exact Qzn hM' (hr i _ u hc hu)
theorem QCB {P : Program} {gl : Nat → Option (List V)} {g : Nat} {tys : List Ty} {t : Ty} {f : Ql3 tys → Option (List t.den)} (hlt : Nat.blt g JJ = true) (ht : t.flat = true) (h : CtrOkG P gl (QA7 g tys t f)) : CtrOkG P gl (HG g tys [.list t] f) := by
 intro xs y hy
 obtain ⟨m1, m2⟩ := QsA (QmU hlt)
 have hg : (HG g tys [.list t] f).g = g + YS := rfl
 have hge : YS ≤ g + YS := Nat.le_add_left _ _
 rw [hg]
 refine ⟨fun h1 => (Nat.lt_irrefl _ (Nat.lt_of_lt_of_le h1 (Nat.le_trans Qfb.1 hge))).elim, fun _ h1 => (Nat.lt_irrefl _ (Nat.lt_of_lt_of_le h1 hge)).elim, fun _ _ => ?_, fun h1 => (Nat.lt_irrefl _ (Nat.lt_of_lt_of_le m2 h1)).elim⟩
 rw [Nat.add_sub_cancel]
 have h0 := (h xs y hy).2.1 (Nat.le_add_left _ _) m1 t y rfl
 rw [show (QA7 g tys t f).g - JJ = g from Nat.add_sub_cancel _ _] at h0
 obtain ⟨he, h0⟩ := h0
 refine ⟨he, fun M w vals hG hF hl hr => (h0 M w vals hG hF hl hr).mono fun e w' => ?_⟩
 rintro ⟨u, F', o, rfl, q1, q2, q3, q4, q5, q6⟩
 obtain ⟨bs, k1, k2, k3⟩ := QFy (n0 := w.heap.size) (w' := w') ht q4 q5 (fun ad v hv => by
  rcases q2 ad v hv with h1 | h1
  ·exact (hF ad v h1).block (q3.block _ (hF ad v h1).lt)
  ·exact h1.1) q6
 exact ⟨u, bs, rfl, q3, k1, k2, k3⟩
def QCC (g : Nat) (t : Ty) (f : Ql3 [t, .int .i64] → Option (Qgr [.int .i64, t])) : Ctr := ⟨g + Ua, [t, .int .i64], [.int .i64, t], f⟩
end Go.Ab
