/-
  Regions and code: from the evaluator's run to the model's.
-/
import Derived.Test.YthnejijnpepgjaaAb12
namespace Go.Ab
variable {R : Type}

theorem run_callFunc {P : Program} {g : Nat} {args : Array Value} {w : World} (h : entersB P g = true) : (callFunc g args).run P w = .ok (.enter g args) w := by
  unfold entersB at h
  split at h
  · rename_i fn hf
    simp only [Bool.and_eq_true, Bool.not_eq_true'] at h
    have hn : fn.name ≠ "runtime.NumGoroutine" := by simpa using h.2
    have hb : fn.body ≠ none := by
      intro e; rw [e] at h; simp at h
    simp [callFunc, hf, hn, hb]
  · cases h

/-- A call of a function on data: what it returns, in new memory alone. -/
def AOK (P : Program) (g : Nat) (args : List V) (v : V) : Prop :=
  entersB P g = true ∧ (∀ n, v.le n = true) ∧
  ∀ (M : Me) (w : World) (vals : List Value), (∀ a u, M.F a = some u → a.spot = none ∧ w.cell? a = some u) → args.length = vals.length → (∀ (i : Nat) c u, args[i]? = some c → vals[i]? = some u → RelV M c u) →
    Calls P g vals.toArray w fun e w' => ∃ u F', e = .returned u ∧ M.F.le F' ∧ (∀ a u, F' a = some u → M.F a = some u ∨ (a.spot = none ∧ w'.cell? a = some u ∧ w.heap.size ≤ a.block)) ∧
      RowKit.Below w.heap.size w w' ∧ RelV ⟨F', M.μ, M.τ, M.N⟩ v u

def ConOk (P : Program) (con : Nat → List V → (V → Option R) → Option R) : Prop :=
  ∀ g args K r, con g args K = some r → ∃ v, K v = some r ∧ AOK P g args v

section
variable {P : Program} {base : Nat} {w0 : Orig} {θ : Nat → Nat → Value} {CF : Nat → Ctx R} {root : Nat → Labels R}

/-- The contexts of a function, fuel by fuel, and its labels. -/
structure CtxOk (P : Program) (CF : Nat → Ctx R) (root : Nat → Labels R) : Prop where
  P_eq : ∀ m, (CF m).P = P
  A_eq : ∀ m m', (CF m).A = (CF m').A
  I_eq : ∀ m m', (CF m).I = (CF m').I
  con : ∀ m, ConOk P (CF m).con
  L : ∀ m q vs r, (CF m).L q vs = some r → ∃ m' f an, m = m' + 1 ∧ onlyPath (root m') q = some f ∧ findPath (CF m).A q = some an ∧ f (mkSt an vs) = some r

/-- A call that is walked in place. -/
def InlOk (P : Program) (base : Nat) (w0 : Orig) (CF : Nat → Ctx R) (root : Nat → Labels R) : Prop :=
  ∀ (d : Nat) (path : List Nat) (g : Nat) (KV : Nat → V → Kont R), (∀ m x, x ∈ (CF m).lab d path g (KV m) → x ∈ root m) → ∀ (m : Nat) (args : List V) (st : St) (r : R) (M : Me) (θ : Nat → Nat → Value) (w : World) (vals : List Value),
    (CF m).inl d path g args (KV m) st = some r → Rel P base w0 d st θ M w → args.length = vals.length → (∀ (i : Nat) c u, args[i]? = some c → vals[i]? = some u → RelV M c u) → V.le.leL d args = true →
    entersB P g = true ∧ Calls P g vals.toArray w fun e w' => ∃ u v m' st' M', m' ≤ m ∧ e = .returned u ∧ KV m' v st' = some r ∧ Rel P base w0 d st' θ M' w' ∧ RelV M' v u ∧ v.le d = true

def Fam (P : Program) (base : Nat) (w0 : Orig) (dp nn : Nat) (θ : Nat → Nat → Value) (N : Nat) (K : Nat → Kont R) (r : R) (a : Act) (w : World) : Prop :=
  ∃ m, m ≤ N ∧ Goes P base w0 dp nn θ (K m) r a w

theorem Oper.wp_weaken {o : Oper} {a : Act} {w : World} {K K' : Act → World → Prop} {Q : Exit → Act → World → Prop} (h : o.wp P a w K Q) (hk : ∀ a w, K a w → K' a w) : o.wp P a w K' Q := Oper.wp_mono hk h

/-- The values of a call's operands. -/
theorem args_rel {dp nn : Nat} {st : St} {M : Me} {a : Act} {w : World} (h : RelA P base w0 dp nn st θ M a w) (xs : Array Operand) : (xs.toList.map (st.ev dp)).length = (xs.map a.eval).toList.length ∧
    (∀ (i : Nat) c u, (xs.toList.map (st.ev dp))[i]? = some c → (xs.map a.eval).toList[i]? = some u → RelV M c u) ∧ V.le.leL dp (xs.toList.map (st.ev dp)) = true := by
  refine ⟨by simp, ?_, ?_⟩
  · intro i c u hc hu
    rw [List.getElem?_map] at hc
    rw [Array.toList_map, List.getElem?_map] at hu
    cases hx : xs.toList[i]? with
    | none => rw [hx] at hc; cases hc
    | some x =>
      rw [hx] at hc hu
      simp only [Option.map_some, Option.some.injEq] at hc hu
      subst hc; subst hu
      exact (h.ev x).1
  · refine leL_mk fun c hc => ?_
    obtain ⟨x, _, rfl⟩ := List.mem_map.1 hc
    exact (h.ev x).2

theorem leL_append {n : Nat} {cs ds : List V} (h : V.le.leL n cs = true) (h' : V.le.leL n ds = true) : V.le.leL n (cs ++ ds) = true := by
  refine leL_mk fun c hc => ?_
  rcases List.mem_append.1 hc with hc | hc
  · obtain ⟨j, hj⟩ := List.getElem?_of_mem hc; exact leL_at h hj
  · obtain ⟨j, hj⟩ := List.getElem?_of_mem hc; exact leL_at h' hj

/-- A call. -/
theorem call_sound (H : CtxOk P CF root) (HI : InlOk P base w0 CF root) {dp nn : Nat} {path : List Nat} {here : Nat} {o : Oper} {K : Nat → Kont R} (hsub : ∀ g, findPath (CF 0).I (here :: path) = some g → ∀ m x, x ∈ (CF m).lab dp (here :: path) g (fun v st => K m (st.put dp o.dst v)) → x ∈ root m)
    {m : Nat} {st : St} {M : Me} {a : Act} {w : World} {r : R} (h : RelA P base w0 dp nn st θ M a w) (hd : okDst nn o = true) (hc : isCall o = true) (hs : stepC (CF m) dp path here o st (K m) = some r) (Q : Exit → Act → World → Prop) :
    o.wp P a w (Fam P base w0 dp nn θ m K r) Q := by
  unfold isCall at hc
  split at hc
  case h_2 => cases hc
  rename_i f args argTypes hop
  simp only [stepC, hop] at hs
  split at hs
  case h_2 => cases hs
  rename_i g caps hf
  have hfv := h.ev f
  rw [hf] at hfv
  obtain ⟨hfr, hfl⟩ := hfv
  obtain ⟨arr, hfval, hcl, hca⟩ : ∃ arr, a.eval f = .func (.func g) #[] arr ∧ caps.length = arr.size ∧ ∀ (i : Nat) (c : V) (u : Value), caps[i]? = some c → arr[i]? = some u → RelV M c u := by
    generalize a.eval f = vf at hfr
    cases hfr with
    | fn g cs arr hl ha => exact ⟨arr, rfl, hl, ha⟩
  obtain ⟨al, aa, ale⟩ := args_rel h args
  have hlen : (args.toList.map (st.ev dp) ++ caps).length = ((args.map a.eval).toList ++ arr.toList).length := by simp [hcl]
  have hrel : ∀ (i : Nat) c u, (args.toList.map (st.ev dp) ++ caps)[i]? = some c → ((args.map a.eval).toList ++ arr.toList)[i]? = some u → RelV M c u := by
    intro i c u hc hu
    by_cases hi : i < (args.toList.map (st.ev dp)).length
    · rw [List.getElem?_append_left hi] at hc
      rw [List.getElem?_append_left (by rw [← al]; exact hi)] at hu
      exact aa i c u hc hu
    · rw [List.getElem?_append_right (by omega)] at hc
      rw [List.getElem?_append_right (by omega), ← al] at hu
      exact hca _ c u hc (by simpa using hu)
  have hle : V.le.leL dp (args.toList.map (st.ev dp) ++ caps) = true := leL_append ale hfl
  have hvals : ((args.map a.eval).toList ++ arr.toList).toArray = args.map a.eval ++ arr := by simp
  have hexec : entersB P g = true → (execOp a.eval o).run P w = .ok (.enter g (args.map a.eval ++ arr)) w := by
    intro hb
    simp [execOp, hop, resolve, hfval, Deferred.ofValue, invoke, run_callFunc hb]
  have hI := H.I_eq m 0
  split at hs
  · rename_i g' hg
    obtain ⟨hgg, hs2⟩ := bif_some hs
    clear hs
    have hgg := Nat.eq_of_beq_eq_true hgg
    subst hgg
    rw [hI] at hg
    obtain ⟨hb, hcalls⟩ := HI dp (here :: path) g (fun m v st => K m (st.put dp o.dst v)) (hsub g hg) m _ st r M _ w _ hs2 h.rel hlen hrel hle
    rw [hvals] at hcalls
    unfold Oper.wp
    rw [hexec hb, Oper.upon_enter]
    refine hcalls.mono fun e w' => ?_
    rintro ⟨u, v, m', st', M', hm', rfl, k1, k2, k3, k4⟩
    exact ⟨m', hm', _, _, (RelA.mk k2 h.size h.defers).put (okDst_lt hd) k3 k4, k1⟩
  · obtain ⟨v, k1, hb, hvl, hall⟩ := H.con m g _ _ r hs
    have hcalls := hall M w _ h.rel.F hlen hrel
    rw [hvals] at hcalls
    unfold Oper.wp
    rw [hexec hb, Oper.upon_enter]
    refine hcalls.mono fun e w' => ?_
    rintro ⟨u, F', rfl, q1, q2, q3, q4⟩
    have hext := h.rel.ext (M' := ⟨F', M.μ, M.τ, M.N⟩) (w' := w') ⟨q1, fun _ _ _ _ h => h, Nat.le_refl _, fun _ _ _ h => h⟩ q3.size (fun k hk => q3.block k hk) q2 rfl rfl rfl (h.rel.below.trans (q3.mono h.rel.hb))
    exact ⟨m, Nat.le_refl _, _, _, (RelA.mk hext h.size h.defers).put (okDst_lt hd) q4 (hvl dp), k1⟩

/-- A guard whose value is known. -/
theorem guard_rel {dp nn : Nat} {ops : Array Oper} {j t : Nat} {bv : Bool} {st : St} {M : Me} {a : Act} {w : World} (h : RelA P base w0 dp nn st θ M a w) (hdst : dstOf ops.toList j = some t) (hbv : st.tm dp t = .d .bool bv) :
    yielded ops a.tmps j = some bv ∧ RelA P base w0 dp nn (st.set dp t (.d .bool bv)) θ M a w := by
  have htm := h.rel.tm dp t (Nat.le_refl _)
  rw [hbv] at htm
  have htv := htm.bool_inv
  simp only [thA, if_true] at htv
  have hy : yielded ops a.tmps j = some bv := by
    unfold dstOf at hdst
    have hdst' : (ops[j]?).bind (·.dst) = some t := by simpa using hdst
    unfold yielded
    rw [hdst']
    have : a.tmps[t]? = some (.bool bv) := by
      rw [Array.getD_eq_getD_getElem?] at htv
      cases hq : a.tmps[t]? with
      | none => rw [hq] at htv; simp [undef] at htv
      | some q => rw [hq] at htv; simp at htv; rw [htv]
    simp [this]
  have htlt : t < nn := by
    rw [← h.size]
    rcases Nat.lt_or_ge t a.tmps.size with h1 | h1
    · exact h1
    · rw [Array.getD_eq_getD_getElem?, Array.getElem?_eq_none h1] at htv; simp [undef] at htv
  have hset : RelA P base w0 dp nn (st.set dp t (.d .bool bv)) θ M a w := by
    have := h.set (v := .d .bool bv) (u := .bool bv) htlt (.mkBool bv) rfl
    have e : a.put (some t) (.bool bv) = a := by
      unfold Act.put
      simp only
      congr 1
      apply Array.ext'
      rw [Array.toList_setIfInBounds]
      apply List.ext_getElem?
      intro k
      rw [List.getElem?_set]
      split
      · rename_i hk
        subst hk
        have hlt : t < a.tmps.size := by rw [h.size]; exact htlt
        rw [if_pos (by simpa using hlt)]
        rw [Array.getD_eq_getD_getElem?, Array.getElem?_eq_getElem hlt] at htv
        simp only [Option.getD_some] at htv
        rw [List.getElem?_eq_getElem (by simpa using hlt)]
        simp [htv]
      · rfl
    rwa [e] at this
  exact ⟨hy, hset⟩

theorem guard_un {dp nn : Nat} {ops : Array Oper} {j t : Nat} {st : St} {M : Me} {a : Act} {w : World} (h : RelA P base w0 dp nn st θ M a w) (hdst : dstOf ops.toList j = some t) (hun : st.tm dp t = .un) : yielded ops a.tmps j = none := by
  have htm := h.rel.tm dp t (Nat.le_refl _)
  rw [hun] at htm
  simp only [thA, if_true] at htm
  generalize hv : a.tmps.getD t undef = v at htm
  cases htm
  unfold dstOf at hdst
  have hdst' : (ops[j]?).bind (·.dst) = some t := by simpa using hdst
  unfold yielded
  rw [hdst']
  rw [Array.getD_eq_getD_getElem?] at hv
  cases hq : a.tmps[t]? with
  | none => simp [hq]
  | some q => rw [hq] at hv; simp only [Option.getD_some] at hv; subst hv; simp [hq, undef]

/-- The operations that are left of a region. -/
theorem ops_sound (H : CtxOk P CF root) (HI : InlOk P base w0 CF root) {dp nn : Nat} {path : List Nat} {ops : Array Oper} {Q : Exit → Act → World → Prop} {K : Nat → Kont R} {r : R} {N : Nat} (hQ : ∀ a w, Fam P base w0 dp nn θ N K r a w → Q .normal a w) (b : Nat) :
    ∀ (rest : List Oper) (i : Nat), ops.toList.drop i = rest → (∀ m x, x ∈ opsL (CF m) dp nn path ops.toList (b + i) rest (K m) → x ∈ root m) →
      ∀ (m : Nat) (st : St) (M : Me) (a : Act) (w : World), m ≤ N → opsC (CF m) dp nn path ops.toList (b + i) rest (K m) st = some r → RelA P base w0 dp nn st θ M a w → wpOps P ops Q (List.range' i rest.length) a w
  | [], i, _, _, m, st, M, a, w, hN, hs, h => by
    simp only [opsC] at hs
    exact hQ a w ⟨m, hN, st, M, h, hs⟩
  | o :: rest, i, hdrop, hsub, m, st, M, a, w, hN, hs, h => by
    have hoi : ops[i]? = some o := by
      have : (ops.toList.drop i)[0]? = some o := by rw [hdrop]; rfl
      rw [List.getElem?_drop] at this
      simpa using this
    have hdrop' : ops.toList.drop (i + 1) = rest := by
      rw [← List.drop_drop, hdrop]; rfl
    have hsub1 : ∀ g, findPath (CF 0).I ((b + i) :: path) = some g → ∀ m x, x ∈ (CF m).lab dp ((b + i) :: path) g (fun v st => opsC (CF m) dp nn path ops.toList (b + i + 1) rest (K m) (st.put dp o.dst v)) → x ∈ root m := by
      intro g hg m x hx
      refine hsub m x ?_
      simp only [opsL]
      rw [H.I_eq m 0, hg]
      exact List.mem_append.2 (.inl hx)
    have hsub2 : ∀ m x, x ∈ opsL (CF m) dp nn path ops.toList (b + (i + 1)) rest (K m) → x ∈ root m := by
      intro m x hx
      refine hsub m x ?_
      simp only [opsL]
      exact List.mem_append.2 (.inr hx)
    have IH : ∀ a w, Fam P base w0 dp nn θ m (fun m => opsC (CF m) dp nn path ops.toList (b + i + 1) rest (K m)) r a w → wpOps P ops Q (List.range' (i + 1) rest.length) a w := by
      rintro a w ⟨m', hm', st, M, h, hs⟩
      exact ops_sound H HI hQ b rest (i + 1) hdrop' hsub2 m' st M a w (Nat.le_trans hm' hN) hs h
    have go : ∀ (st : St) (M : Me), RelA P base w0 dp nn st θ M a w → okDst nn o = true → stepC (CF m) dp path (b + i) o st (opsC (CF m) dp nn path ops.toList (b + i + 1) rest (K m)) = some r → o.wp P a w (wpOps P ops Q (List.range' (i + 1) rest.length)) Q := by
      intro st M h hd hs
      refine Oper.wp_mono IH ?_
      cases hc : isCall o with
      | true => exact call_sound (K := fun m => opsC (CF m) dp nn path ops.toList (b + i + 1) rest (K m)) H HI hsub1 h hd hc hs Q
      | false => exact Oper.wp_mono (fun a w hg => ⟨m, Nat.le_refl _, hg⟩) (step_sound (CF m) (H.P_eq m) h hd hc hs Q)
    simp only [opsC] at hs
    obtain ⟨hd, hs2⟩ := bif_some hs
    clear hs
    rw [List.length_cons, List.range'_succ]
    simp only [wpOps, hoi]
    split at hs2
    · rename_i hg
      have hw : Region.wanted o (yielded ops a.tmps) = true := by simp [Region.wanted, hg]
      rw [if_pos hw]
      exact .inl (go st M h hd hs2)
    · rename_i j want hg
      split at hs2
      case h_1 => cases hs2
      rename_i t hdst
      have hskip : ∀ st : St, RelA P base w0 dp nn st θ M a w → opsC (CF m) dp nn path ops.toList (b + i + 1) rest (K m) (st.put dp o.dst .un) = some r → wpOps P ops Q (List.range' (i + 1) rest.length) (a.put o.dst undef) w := by
        intro st h hs
        exact IH _ _ ⟨m, Nat.le_refl _, _, M, h.put (okDst_lt hd) .un rfl, hs⟩
      split at hs2
      case h_3 => cases hs2
      case h_2 =>
        rename_i hun
        have hwant : Region.wanted o (yielded ops a.tmps) = false := by simp [Region.wanted, hg, guard_un h hdst hun]
        rw [if_neg (by rw [hwant]; decide)]
        exact hskip _ h hs2
      rename_i bv hbv
      obtain ⟨hy, hset⟩ := guard_rel h hdst hbv
      have hwant : Region.wanted o (yielded ops a.tmps) = (some bv == some want) := by simp [Region.wanted, hg, hy]
      cases bv with
      | true =>
        cases want with
        | true =>
          rw [if_pos (by rw [hwant]; rfl)]
          exact .inl (go _ M hset hd hs2)
        | false =>
          rw [if_neg (by rw [hwant]; decide)]
          exact hskip _ hset hs2
      | false =>
        cases want with
        | true =>
          rw [if_neg (by rw [hwant]; decide)]
          exact hskip _ hset hs2
        | false =>
          rw [if_pos (by rw [hwant]; rfl)]
          exact .inl (go _ M hset hd hs2)


/-- A call that is not walked in place: it turns nothing that was there. -/
theorem con_call (H : CtxOk P CF root) {dp nn : Nat} {path : List Nat} {here : Nat} {o : Oper} {K : Kont R} {m : Nat} {st : St} {M : Me} {a : Act} {w : World} {r : R} (h : RelA P base w0 dp nn st θ M a w) (hd : okDst nn o = true) (hc : isCall o = true)
    (hn : (findPath (CF m).I (here :: path)).isNone = true) (hs : stepC (CF m) dp path here o st K = some r) (Q : Exit → Act → World → Prop) :
    o.wp P a w (fun a' w' => RowKit.Below w.heap.size w w' ∧ Goes P base w0 dp nn θ K r a' w') Q := by
  unfold isCall at hc
  split at hc
  case h_2 => cases hc
  rename_i f args argTypes hop
  simp only [stepC, hop] at hs
  split at hs
  case h_2 => cases hs
  rename_i g caps hf
  have hfv := h.ev f
  rw [hf] at hfv
  obtain ⟨hfr, hfl⟩ := hfv
  obtain ⟨arr, hfval, hcl, hca⟩ : ∃ arr, a.eval f = .func (.func g) #[] arr ∧ caps.length = arr.size ∧ ∀ (i : Nat) (c : V) (u : Value), caps[i]? = some c → arr[i]? = some u → RelV M c u := by
    generalize a.eval f = vf at hfr
    cases hfr with
    | fn g cs arr hl ha => exact ⟨arr, rfl, hl, ha⟩
  obtain ⟨al, aa, ale⟩ := args_rel h args
  have hlen : (args.toList.map (st.ev dp) ++ caps).length = ((args.map a.eval).toList ++ arr.toList).length := by simp [hcl]
  have hrel : ∀ (i : Nat) c u, (args.toList.map (st.ev dp) ++ caps)[i]? = some c → ((args.map a.eval).toList ++ arr.toList)[i]? = some u → RelV M c u := by
    intro i c u hc hu
    by_cases hi : i < (args.toList.map (st.ev dp)).length
    · rw [List.getElem?_append_left hi] at hc
      rw [List.getElem?_append_left (by rw [← al]; exact hi)] at hu
      exact aa i c u hc hu
    · rw [List.getElem?_append_right (by omega)] at hc
      rw [List.getElem?_append_right (by omega), ← al] at hu
      exact hca _ c u hc (by simpa using hu)
  have hvals : ((args.map a.eval).toList ++ arr.toList).toArray = args.map a.eval ++ arr := by simp
  have hexec : entersB P g = true → (execOp a.eval o).run P w = .ok (.enter g (args.map a.eval ++ arr)) w := by
    intro hb
    simp [execOp, hop, resolve, hfval, Deferred.ofValue, invoke, run_callFunc hb]
  split at hs
  · rename_i g' hg
    rw [hg] at hn
    cases hn
  · obtain ⟨v, k1, hb, hvl, hall⟩ := H.con m g _ _ r hs
    have hcalls := hall M w _ h.rel.F hlen hrel
    rw [hvals] at hcalls
    unfold Oper.wp
    rw [hexec hb, Oper.upon_enter]
    refine hcalls.mono fun e w' => ?_
    rintro ⟨u, F', rfl, q1, q2, q3, q4⟩
    have hext := h.rel.ext (M' := ⟨F', M.μ, M.τ, M.N⟩) (w' := w') ⟨q1, fun _ _ _ _ h => h, Nat.le_refl _, fun _ _ _ h => h⟩ q3.size (fun k hk => q3.block k hk) q2 rfl rfl rfl (h.rel.below.trans (q3.mono h.rel.hb))
    exact ⟨q3, _, _, (RelA.mk hext h.size h.defers).put (okDst_lt hd) q4 (hvl dp), k1⟩

theorem wpAnyH_mono {ops : Array Oper} {md : Region.Mode} {Q : Exit → Act → World → Prop} {S S' : World → Prop} (hS : ∀ w, S' w → S w) : ∀ (fuel : Nat) (listed : Array Bool) (a : Act) (w : World), wpAnyH P md ops Q S' fuel listed a w → wpAnyH P md ops Q S fuel listed a w
  | 0, _, _, _, h => h
  | fuel + 1, _, _, _, h => ⟨h.1, fun i hi => wpOp_mono (fun _ _ hh => ⟨hS _ hh.1, wpAnyH_mono hS fuel _ _ _ hh.2⟩) (h.2 i hi)⟩

/-- The rest of a region whose order is drawn. -/
theorem draw_sound (H : CtxOk P CF root) {dp nn id : Nat} {path : List Nat} {ops : Array Oper} {K : Kont R} {r : R} {Q : Exit → Act → World → Prop} (hQ : ∀ a w, Goes P base w0 dp nn θ K r a w → Q .normal a w) (hQp : ∀ c a w, ¬ Q (.panic c) a w) (m : Nat)
    (hsel : Region.noSelect ops = true) :
    ∀ (fuel : Nat) (listed : Array Bool) (st : St) (M : Me) (a : Act) (w : World), opsD (CF m) dp nn path id ops fuel listed K st = some r → RelA P base w0 dp nn st θ M a w →
      wpAnyH P .any ops Q (RowKit.Below w.heap.size w) fuel listed a w
  | 0, listed, st, M, a, w, hs, h => by
    simp only [opsD] at hs
    obtain ⟨h0, hs⟩ := bif_some hs
    exact wpAnyH_done (by simpa using h0) (hQ a w ⟨_, _, h, hs⟩) _
  | fuel + 1, listed, st, M, a, w, hs, h => by
    simp only [opsD] at hs
    split at hs
    case h_2 =>
      obtain ⟨h0, hs⟩ := bif_some hs
      exact wpAnyH_done (by simpa using h0) (hQ a w ⟨_, _, h, hs⟩) _
    rename_i i hfind
    have hstep := List.find?_some hfind
    rw [H.P_eq m] at hstep
    split at hs
    case h_2 => cases hs
    rename_i o hi
    unfold drawTake at hstep
    rw [hi] at hstep
    simp only at hstep
    have IH : ∀ (st : St) (M : Me) (a : Act) (w : World), opsD (CF m) dp nn path id ops fuel (listed.setIfInBounds i true) K st = some r → RelA P base w0 dp nn st θ M a w → wpAnyH P .any ops Q (RowKit.Below w.heap.size w) fuel (listed.setIfInBounds i true) a w :=
      fun st M a w hs h => draw_sound H hQ hQp m hsel fuel _ st M a w hs h
    -- an operation that is not wanted
    have skip : ∀ st : St, Region.wanted o (yielded ops a.tmps) = false → okDst nn o = true → RelA P base w0 dp nn st θ M a w → opsD (CF m) dp nn path id ops fuel (listed.setIfInBounds i true) K (st.put dp o.dst .un) = some r →
        wpAnyH P .any ops Q (RowKit.Below w.heap.size w) (fuel + 1) listed a w := by
      intro st hw hd h hs
      have hnext := IH _ _ _ _ hs (h.put (u := undef) (okDst_lt hd) .un rfl)
      cases hl : isLight P o with
      | true =>
        rw [hl] at hstep
        simp only [cond_true, Bool.and_eq_true] at hstep
        exact wpAnyH_take hi hsel hstep.1 hstep.2 (fun c a w hq => absurd hq (hQp c _ w)) (.inr ⟨hw, rfl⟩) (.refl _ _) hnext
      | false =>
        rw [hl] at hstep
        simp only [cond_false, Bool.and_eq_true] at hstep
        obtain ⟨_, hr⟩ := hstep
        split at hr
        case h_2 => cases hr
        rename_i j hj
        have hji := Nat.eq_of_beq_eq_true hr
        subst hji
        refine wpAnyH_all hj (by simp) fun k hk => ?_
        have : k = j := by simpa using hk
        subst this
        unfold wpOp
        rw [hi]
        simp only [hw, Bool.false_eq_true, if_false]
        exact ⟨.refl _ _, hnext⟩
    have go : ∀ st : St, Region.wanted o (yielded ops a.tmps) = true → okDst nn o = true → RelA P base w0 dp nn st θ M a w → stepC (CF m) dp path (1000 * id + i) o st (opsD (CF m) dp nn path id ops fuel (listed.setIfInBounds i true) K) = some r →
        wpAnyH P .any ops Q (RowKit.Below w.heap.size w) (fuel + 1) listed a w := by
      intro st hw hd h hs
      cases hl : isLight P o with
      | true =>
        rw [hl] at hstep
        simp only [cond_true, Bool.and_eq_true] at hstep
        obtain ⟨v, u, h1, h2, h3, h4⟩ := light_sound (CF m) (H.P_eq m) h hl hs
        exact wpAnyH_take hi hsel hstep.1 hstep.2 (fun c a w hq => absurd hq (hQp c _ w)) (.inl ⟨hw, h4⟩) (.refl _ _) (IH _ _ _ _ h1 (h.put (okDst_lt hd) h2 h3))
      | false =>
        rw [hl] at hstep
        simp only [cond_false, Bool.and_eq_true] at hstep
        obtain ⟨hkind, hr⟩ := hstep
        split at hr
        case h_2 => cases hr
        rename_i j hj
        have hji := Nat.eq_of_beq_eq_true hr
        subst hji
        refine wpAnyH_all hj (by simp) fun k hk => ?_
        have : k = j := by simpa using hk
        subst this
        unfold wpOp
        rw [hi]
        simp only [hw, if_true]
        have hwp : o.wp P a w (fun a' w' => RowKit.Below w.heap.size w w' ∧ Goes P base w0 dp nn θ (opsD (CF m) dp nn path id ops fuel (listed.setIfInBounds k true) K) r a' w') Q := by
          simp only [Bool.or_eq_true, Bool.and_eq_true] at hkind
          rcases hkind with ⟨hcall, hnone⟩ | hgr
          · exact con_call H h hd hcall hnone hs Q
          · exact grow_sound (CF m) (H.P_eq m) h hd hgr hs Q
        refine .inl (Oper.wp_mono ?_ hwp)
        rintro a' w' ⟨hb, st', M', h', hk'⟩
        exact ⟨hb, wpAnyH_mono (fun w2 h2 => hb.trans (h2.mono hb.size)) _ _ _ _ (IH st' M' a' w' hk' h')⟩
    simp only [opsC] at hs
    obtain ⟨hd, hs2⟩ := bif_some hs
    clear hs
    split at hs2
    · rename_i hg
      exact go st (by simp [Region.wanted, hg]) hd h hs2
    · rename_i j want hg
      split at hs2
      case h_1 => cases hs2
      rename_i t hdst
      split at hs2
      case h_3 => cases hs2
      case h_2 =>
        rename_i hun
        exact skip _ (by simp [Region.wanted, hg, guard_un h hdst hun]) hd h hs2
      rename_i bv hbv
      obtain ⟨hy, hset⟩ := guard_rel h hdst hbv
      have hwant : Region.wanted o (yielded ops a.tmps) = (some bv == some want) := by simp [Region.wanted, hg, hy]
      cases bv with
      | true =>
        cases want with
        | true => exact go _ (by rw [hwant]; rfl) hd hset hs2
        | false => exact skip _ (by rw [hwant]; decide) hd hset hs2
      | false =>
        cases want with
        | true => exact skip _ (by rw [hwant]; decide) hd hset hs2
        | false => exact go _ (by rw [hwant]; rfl) hd hset hs2

end
end Go.Ab
