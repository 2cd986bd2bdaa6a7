/-
  The calls that are walked in place; a function from its arguments to its result.
-/
import Derived.Test.YtgmdnickgijkoaaDoorAb15
namespace Go.Ab
variable {R : Type}

theorem Rel.congr {P : Program} {base : Nat} {w0 : Orig} {dp : Nat} {st : St} {θ θ' : Nat → Nat → Value} {M : Me} {w : World} (h : Rel P base w0 dp st θ M w) (he : ∀ d t, d ≤ dp → θ d t = θ' d t) : Rel P base w0 dp st θ' M w :=
  { h with tm := fun d t hd => by rw [← he d t hd]; exact h.tm d t hd }

section
variable {P : Program} {base : Nat} {w0 : Orig}

/-- The contexts with calls walked in place so many deep. -/
noncomputable def ctxF (P : Program) (L : Nat → List Nat → List V → Option R) (A : List (List Nat × Ann)) (I : List (List Nat × Nat)) (con : Nat → List V → (V → Option R) → Option R) (k : Nat) (m : Nat) : Ctx R := ctxI P (L m) A I con k

theorem ctxI_P (L : List Nat → List V → Option R) (A : List (List Nat × Ann)) (I : List (List Nat × Nat)) (con : Nat → List V → (V → Option R) → Option R) (k : Nat) :
    (ctxI P L A I con k).P = P ∧ (ctxI P L A I con k).A = A ∧ (ctxI P L A I con k).I = I ∧ (ctxI P L A I con k).con = con ∧ (ctxI P L A I con k).L = L := by
  cases k <;> exact ⟨rfl, rfl, rfl, rfl, rfl⟩

/-- The end of a body that was walked. -/
theorem body_end {θ : Nat → Nat → Value} {fn : Func} {dp nn m : Nat} {K : Nat → V → Kont R} {r : R} {R' : Ending → World → Prop}
    (hK : ∀ (m' : Nat) (st : St) (M : Me) (a : Act) (w : World) (v : V) (u : Value), m' ≤ m → RelA P base w0 dp nn st θ M a w → resV P fn dp st = some v → (results fn a.tmps).run P w = .ok u w → K m' v st = some r →
      ((∀ n, n < dp → v.le n = true → RelV (M.leave dp w) v u) ∧ ∀ tys x, tys.length = fn.results.size → packT tys v = some x → ∀ M' : Me, (M.leave dp w).F.le M'.F → RelV M' (unpackT tys x) u) → R' (.returned u) w) :
    ∀ e a w, Post P base w0 dp nn θ m (fun m => retK P fn dp (K m)) r e a w → bodyPost P fn R' e a w := by
  have fin : ∀ a w, Fam P base w0 dp nn θ m (fun m => retK P fn dp (K m) .ret) r a w → a.defers = [] ∧ ∃ v, (results fn a.tmps).run P w = .ok v w ∧ R' (.returned v) w := by
    rintro a w ⟨m', hm', st, M, h, hk⟩
    refine ⟨h.defers, ?_⟩
    simp only [retK] at hk
    split at hk
    case h_2 => cases hk
    rename_i v hv
    obtain ⟨u, hu, hres⟩ := resV_sound h hv
    exact ⟨u, hu, hK m' st M a w v u hm' h hv hu hk hres⟩
  intro e a w hp
  cases e with
  | normal => exact fin a w hp
  | ret => exact fin a w hp
  | exit i =>
    obtain ⟨m', _, st, M, _, hk⟩ := hp
    simp only [retK] at hk
    cases hk
  | goto l => exact hp.elim
  | panic c => exact hp.elim
  | outgrown => exact hp.elim

theorem inl_sound {L : Nat → List Nat → List V → Option R} {A : List (List Nat × Ann)} {I : List (List Nat × Nat)} {con : Nat → List V → (V → Option R) → Option R} {root : Nat → Labels R} (hH : ∀ k, CtxOk P w0.gl (ctxF P L A I con k) root) :
    ∀ k, InlOk P base w0 (ctxF P L A I con k) root
  | 0 => by
    intro d path g KV _ m args st r M θ w vals hs
    simp only [ctxF, ctxI] at hs
    cases hs
  | k + 1 => by
    intro d path g KV hsub m args st r M θ w vals hs h hlen hr hle
    simp only [ctxF, ctxI] at hs
    split at hs
    case h_2 => cases hs
    rename_i fn hf
    split at hs
    case h_2 => cases hs
    rename_i c hb
    obtain ⟨h0, hs2⟩ := bif_some hs
    clear hs
    simp only [Bool.and_eq_true] at h0
    have hn := Nat.le_of_ble_eq_true h0.1
    have hent : entersB P g = true := h0.2
    refine ⟨hent, ?_⟩
    have hra := enter_rel (fn := fn) h hlen hr hle hn
    have hsub' : ∀ m x, x ∈ labelsC (ctxF P L A I con k m) (d + 1) fn.ntmps path c (retK P fn (d + 1) (leaveK d (KV m))) → x ∈ root m := by
      intro m x hx
      refine hsub m x ?_
      simp only [ctxF, ctxI, hf, hb]
      exact hx
    have hw := code_sound (hH k) (inl_sound hH k) c (fun m => retK P fn (d + 1) (leaveK d (KV m))) r hsub' m _ M _ w hs2 hra
    refine calls_of_wp hf hb (wp_mono hw (body_end (K := fun m => leaveK d (KV m)) ?_))
    intro m' st' M' a' w' v u hm' h' hv hu hk hres
    unfold leaveK at hk
    obtain ⟨hvl, hk⟩ := bif_some hk
    refine ⟨u, v, m', _, M'.leave (d + 1) w', hm', rfl, hk, (leave_rel h'.rel).congr ?_, hres.1 d (by omega) hvl, hvl⟩
    intro d' t hd'
    simp only [thA]
    rw [if_neg (by omega)]

theorem lamE_ok {gl : Nat → Option (List V)} {A : List (List Nat × Ann)} {I : List (List Nat × Nat)} {con : Nat → List V → (V → Option R) → Option R} {fn : Func} {c : Code} {fin : KontE R} (hcon : ConOk P gl con) (k : Nat) :
    CtxOk P gl (ctxF P (lamE P gl A I con fn c fin) A I con k) (fun m => labelsC (ctxI P (lamE P gl A I con fn c fin m) A I con inlDepth) 0 fn.ntmps [] c fin) where
  P_eq := fun m => (ctxI_P _ _ _ _ k).1
  A_eq := fun m m' => by unfold ctxF; rw [(ctxI_P _ _ _ _ k).2.1, (ctxI_P _ _ _ _ k).2.1]
  I_eq := fun m m' => by unfold ctxF; rw [(ctxI_P _ _ _ _ k).2.2.1, (ctxI_P _ _ _ _ k).2.2.1]
  con := fun m => by unfold ctxF; rw [(ctxI_P _ _ _ _ k).2.2.2.1]; exact hcon
  L := by
    intro m q vs r hl
    unfold ctxF at hl ⊢
    rw [(ctxI_P _ _ _ _ k).2.2.2.2] at hl
    rw [(ctxI_P _ _ _ _ k).2.1]
    cases m with
    | zero => simp only [lamE] at hl; cases hl
    | succ m =>
      simp only [lamE] at hl
      split at hl
      case h_2 => cases hl
      rename_i f an hf han
      exact ⟨m, f, an, rfl, hf, han, hl⟩

theorem entry_rel {gl : Nat → Option (List V)} {F : Snap} {w : World} (hgl : GlobOk gl F) (hF : ∀ a u, F a = some u → Sees w a u) {fn : Func} {args : List V} {vals : List Value} (hlen : args.length = vals.length)
    (hr : ∀ (i : Nat) c u, args[i]? = some c → vals[i]? = some u → ∀ M : Me, M.F = F → RelV M c u) (hle : V.le.leL 0 args = true) (hn : args.length ≤ fn.ntmps) :
    RelA P w.heap.size ⟨w, F, gl, hgl⟩ 0 fn.ntmps (enterSt { St.empty with gl := gl } 0 args) (fun _ _ => undef) ⟨F, fun _ _ => none, fun _ => none, 0, .no⟩ (entryAct fn vals.toArray) w := by
  refine ⟨⟨hF, ?_, ?_, ?_, fun _ _ _ => rfl, fun _ _ _ _ _ _ _ h => (by cases h), fun _ _ _ _ _ h => (by cases h), fun _ _ h => (by cases h), fun k h => (by simp [enterSt, St.empty] at h), fun _ _ _ _ h => (by cases h), fun _ _ _ _ _ _ h => (by cases h), rfl, fun k _ => rfl, Nat.le_refl _, .refl _ _, .refl _, fun _ _ h => .inl h, rfl, fun _ _ h => (by cases h), .no rfl⟩, ?_, rfl⟩
  · intro d t hd
    have e : d = 0 := by omega
    subst e
    simp only [enterSt, thA]
    simp only [if_true]; rw [setArgs_at, if_pos (Nat.zero_le _), clearD_at, if_pos rfl, entry_getD]
    simp only [Nat.sub_zero]
    cases hc : args[t]? with
    | none => exact .any _
    | some c =>
      have hlt : t < vals.length := by rw [← hlen]; exact (List.getElem?_eq_some_iff.1 hc).1
      have hu : vals[t]? = some vals[t] := List.getElem?_eq_getElem hlt
      have : vals.toArray.getD t undef = vals[t] := by simp [Array.getD_eq_getD_getElem?, hu]
      rw [this]
      exact hr t c _ hc hu _ rfl
  · intro d t hd
    have e : d = 0 := by omega
    subst e
    simp only [enterSt]
    rw [setArgs_at, if_pos (Nat.zero_le _), clearD_at, if_pos rfl]
    simp only [Nat.sub_zero]
    cases hc : args[t]? with
    | none => rfl
    | some c => exact leL_at hle hc
  · intro d s hd
    have e : d = 0 := by omega
    subst e
    simp only [enterSt]
    rw [clearB_at, if_pos rfl]
    trivial
  · simp only [entryAct, Array.size_append, List.size_toArray, Array.size_replicate]
    omega

/-- A function whose run by the evaluator gives y returns y. -/
theorem fun_sound {g : Nat} {fn : Func} {c : Code} (hf : P.funcs[g]? = some fn) (hb : fn.body = some c) {A : List (List Nat × Ann)} {I : List (List Nat × Nat)} {tys : List Ty} {gl : Nat → Option (List V)} {con : Nat → List V → (V → Option (denT tys)) → Option (denT tys)} (hcon : ConOk P gl con)
    (hres : tys.length = fn.results.size) {n : Nat} {args : List V} {y : denT tys} (hrun : runE P gl A I con fn c (endD P fn (packT tys)) n args = some y) {F : Snap} {w : World} {vals : List Value} (hgl : GlobOk gl F) (hF : ∀ a u, F a = some u → Sees w a u)
    (hlen : args.length = vals.length) (hr : ∀ (i : Nat) c u, args[i]? = some c → vals[i]? = some u → ∀ M : Me, M.F = F → RelV M c u) (hle : V.le.leL 0 args = true) :
    Calls P g vals.toArray w fun e w' => ∃ u F', e = .returned u ∧ F.le F' ∧ (∀ a u, F' a = some u → F a = some u ∨ (Sees w' a u ∧ w.heap.size ≤ a.block)) ∧
      RowKit.Below w.heap.size w w' ∧ ∀ M : Me, F'.le M.F → RelV M (unpackT tys y) u := by
  unfold runE endD at hrun
  obtain ⟨h0, hrun⟩ := bif_some hrun
  have hn := Nat.le_of_ble_eq_true h0
  have hra := entry_rel (P := P) (fn := fn) hgl hF hlen hr hle hn
  have hH := fun k => lamE_ok (P := P) (gl := gl) (A := A) (I := I) (con := con) (fn := fn) (c := c) (fin := retK P fn 0 fun v _ => packT tys v) hcon k
  have hw := code_sound (hH inlDepth) (inl_sound hH inlDepth) c (fun _ => retK P fn 0 fun v _ => packT tys v) y (fun m x hx => hx) n _ _ _ w hrun hra
  refine calls_of_wp hf hb (wp_mono hw (body_end (K := fun _ v _ => packT tys v) ?_))
  intro m' st' M' a' w' v u _ h' hv hu hk hres'
  refine ⟨u, (M'.leave 0 w').F, rfl, h'.rel.F0.trans (leave_Fle 0), ?_, h'.rel.below, fun M hM => hres'.2 tys y hres hk M hM⟩
  intro ad x hx
  rcases leave_F0 hx with h1 | ⟨_, ⟨s, k, h3⟩ | ⟨_, k, reg, h3, h6⟩, h4⟩
  · rcases h'.rel.Fnew ad x h1 with h5 | h5
    · exact .inl h5
    · exact .inr ⟨h'.rel.F ad x h1, h5⟩
  · have hbx := h'.rel.bx 0 s (Nat.le_refl _)
    split at hbx
    · rw [hbx] at h3; cases h3
    · obtain ⟨b, T, arr, k1, k2, _⟩ := hbx
      rw [h3] at k1; cases k1; exact .inr ⟨h4, k2⟩
    · obtain ⟨b, T, arr, k1, k2, _⟩ := hbx
      rw [h3] at k1; cases k1; exact .inr ⟨h4, k2⟩
    · obtain ⟨b, ms, c, k1, k2, _⟩ := hbx
      rw [h3] at k1; cases k1; exact .inr ⟨h4, k2⟩
  · obtain ⟨_, _, h5⟩ := h'.rel.tok k _ h3
    exact .inr ⟨h4, by rw [← h6]; exact (h5 reg rfl).1⟩

/-- A slice that the caller may have as its own. -/
theorem outO_sound {θ : Nat → Nat → Value} {st : St} {M : Me} {w : World} (h : Rel P base w0 0 st θ M w) {t : Ty} {v : V} {u : Value} {xs : List t.den} (hv : outO t st v = some xs) (hu : RelV M v u) :
    ∃ F' o, M.F.le F' ∧ (∀ a u, F' a = some u → M.F a = some u ∨ (Sees w a u ∧ base ≤ a.block)) ∧ RelD F' (.list t) xs [u] ∧ growAt o u xs.length t.cells ∧ ∀ reg, o = some reg → base ≤ reg.g ∧ reg.n ≤ reg.cap ∧ reg.cap ≤ maxLen ∧
        ∃ cur e', w.heap[reg.g]? = some (.cells cur e' (0, 0)) ∧ cur.size = reg.cap * reg.sz ∧ ∀ ad, ad.block = reg.g → reg.n * reg.sz ≤ ad.off → F' ad = none := by
  unfold outO at hv
  split at hv
  · cases hv
    cases hu with
    | nils => exact ⟨M.F, none, .refl _, fun _ _ h => .inl h, relD_nil _ _, ⟨rfl, rfl⟩, fun _ h => by cases h⟩
  · rename_i tok t' ys
    obtain ⟨hl, hv⟩ := bif_some hv
    obtain ⟨o, ho⟩ := h.live tok hl
    obtain ⟨e, rfl⟩ := castL?_eq hv
    subst e
    cases hu with
    | own _ _ _ _ hd hN hg =>
      refine ⟨M.F, o, .refl _, fun _ _ h => .inl h, hd, hg o ho, fun reg hreg => ?_⟩
      obtain ⟨_, _, q⟩ := h.tok tok _ ho
      exact q reg hreg
  · rename_i tok
    split at hv
    case h_2 => cases hv
    rename_i t' ys hb
    obtain ⟨e, rfl⟩ := castL?_eq hv
    subst e
    obtain ⟨h1, h2, h3⟩ := h.rw tok _ hb
    obtain ⟨o, ho⟩ := h.live tok h1
    have hv := hu.raw_inv.2 o ho
    cases o with
    | none =>
      obtain rfl := show u = _ from hv
      obtain rfl := show ys = [] from h2 ho
      exact ⟨M.F, none, .refl _, fun _ _ h => .inl h, relD_nil _ _, ⟨rfl, rfl⟩, fun _ h => by cases h⟩
    | some reg =>
      obtain ⟨k1, k2, k3, cur, e, k4, k5⟩ := h3 reg ho
      obtain ⟨_, _, q⟩ := h.tok tok _ ho
      obtain ⟨q1, q2, q3, cur', e', q4, q5, _⟩ := q reg rfl
      rw [k4] at q4
      cases q4
      simp only at k1 k2 k5
      obtain rfl := show u = _ from hv
      have hcl : cur.toList.length = cur.size := Array.length_toList
      have hfit : ys.length * t'.cells ≤ cur.toList.length := by rw [hcl, q5, k2]; exact Nat.mul_le_mul_right _ (by omega)
      have hrows := rows_of (xs := ys) (ty := t') k5 hfit
      have hpl : (cur.toList.take (ys.length * t'.cells)).length = reg.n * reg.sz := by rw [List.length_take, k1, k2]; omega
      have hle : M.F.le (M.F.cells reg.g (cur.toList.take (ys.length * t'.cells))) := by
        intro ad x hx
        unfold Snap.cells
        by_cases hg : ad.block = reg.g
        · rw [k3 ad hg] at hx; cases hx
        · rw [if_neg (fun q => hg q.1)]; exact hx
      refine ⟨M.F.cells reg.g (cur.toList.take (ys.length * t'.cells)), some reg, hle, ?_, ?_, ?_, ?_⟩
      · intro ad x hx
        unfold Snap.cells at hx
        split at hx
        · rename_i hc
          obtain ⟨c1, c2, c3⟩ := hc
          right
          rw [List.getElem?_take, if_pos (by rw [List.length_take] at c3; omega)] at hx
          refine ⟨.of c2 ?_, by rw [c1]; exact q1⟩
          obtain ⟨b, of, sp⟩ := ad
          simp only at c1 c2 hx
          subst c1; subst c2
          rw [cell_row k4]
          simpa using hx
        · exact .inl hx
      · rw [k1]
        exact (hrows.mono hle).slice (o := 0) (fun j x hx => by rw [Nat.zero_add]; exact cells_get hx) (by omega) q3
      · exact ⟨0, ⟨reg.g, 0, none⟩, by rw [k1]; rfl, fun _ => by rw [Nat.zero_mul], by rw [k1]; exact (Nat.zero_add _).symm, Nat.zero_le _, k2⟩
      · intro r hr
        cases hr
        refine ⟨q1, q2, q3, cur, e, k4, q5, fun ad hb ho => ?_⟩
        unfold Snap.cells
        rw [if_neg (fun q => by have := q.2.2; omega)]
        exact k3 ad hb
  · cases hv

theorem endO_ret {θ : Nat → Nat → Value} {fn : Func} {nn : Nat} {st : St} {M : Me} {a : Act} {w : World} (h : RelA P base w0 0 nn st θ M a w) {t : Ty} {xs : List t.den} (hk : endO P fn t .ret st = some xs) :
    ∃ v u, (results fn a.tmps).run P w = .ok u w ∧ outO t st v = some xs ∧ RelV M v u := by
  have one : ∀ (x : ResultVar) (u : Value), fn.results.toList = [x] → (resRun a.tmps x).run P w = .ok u w → (results fn a.tmps).run P w = .ok u w := by
    intro x u hx hr
    have hts : (fn.results.toList.mapM (resRun a.tmps)).run P w = .ok [u] w := by
      rw [hx, List.mapM_cons]
      simp only [Sem.run_bind, hr, Result.andThen_ok, List.mapM_nil, Sem.run_pure]
    have := run_results hts
    rw [dif_pos (by simp)] at this
    exact this
  simp only [endO] at hk
  split at hk
  · rename_i x hx
    have htm := h.rel.tm 0 x (Nat.le_refl _)
    simp only [thA, if_true] at htm
    exact ⟨_, _, one _ _ hx rfl, hk, htm⟩
  · rename_i p ty hx
    have htm := h.rel.tm 0 p (Nat.le_refl _)
    simp only [thA, if_true] at htm
    obtain ⟨v0, u, h1, h2, h3, _⟩ := loadC_sound hk h.rel htm (h.rel.le 0 p (Nat.le_refl _))
    have hp : ∃ ad, a.tmps.getD p undef = .pointer (some ad) := by
      unfold loadC at hk
      split at hk
      · rename_i hp; rw [hp] at htm; obtain ⟨b, o, us, e, _⟩ := htm.eptr_inv; exact ⟨_, e⟩
      · rename_i hp; rw [hp] at htm; obtain ⟨b, n, e, _⟩ := htm.ptr_inv; exact ⟨_, e⟩
      · rename_i hp; rw [hp] at htm; obtain ⟨b, n, e, _⟩ := htm.rptr_inv; exact ⟨_, e⟩
      · rename_i k sz i off hp
        rw [hp] at htm
        split at hk
        case h_2 => cases hk
        rename_i ty xs hb
        obtain ⟨h0, _⟩ := bif_some hk
        simp only [Bool.and_eq_true] at h0
        have hin := inB_iff.1 h0.2
        obtain ⟨reg, _, _, hτ, _⟩ := h.rel.raw_at hb (by show 0 < xs.length; omega)
        exact ⟨_, htm.qptr_inv.2 reg hτ⟩
      · cases hk
    obtain ⟨ad, hp⟩ := hp
    have h2 := h2 w (.refl _ _)
    rw [hp] at h2
    refine ⟨v0, u, one _ _ hx ?_, h1, h3⟩
    simp only [resRun, hp, asAddr, Sem.run_bind, Sem.run_pure, Result.andThen_ok]
    simpa only [Instr.loadAt, Instr.sureAddr, Sem.run_bind, Sem.run_pure, Result.andThen_ok] using h2
  · cases hk

/-- A function whose result is the caller's own. -/
theorem own_sound {g : Nat} {fn : Func} {c : Code} (hf : P.funcs[g]? = some fn) (hb : fn.body = some c) {A : List (List Nat × Ann)} {I : List (List Nat × Nat)} {t : Ty} {gl : Nat → Option (List V)} {con : Nat → List V → (V → Option (List t.den)) → Option (List t.den)} (hcon : ConOk P gl con)
    {n : Nat} {args : List V} {xs : List t.den} (hrun : runE P gl A I con fn c (endO P fn t) n args = some xs) {F : Snap} {w : World} {vals : List Value} (hgl : GlobOk gl F) (hF : ∀ a u, F a = some u → Sees w a u)
    (hlen : args.length = vals.length) (hr : ∀ (i : Nat) c u, args[i]? = some c → vals[i]? = some u → ∀ M : Me, M.F = F → RelV M c u) (hle : V.le.leL 0 args = true) :
    Calls P g vals.toArray w fun e w' => ∃ u F' o, e = .returned u ∧ F.le F' ∧ (∀ a u, F' a = some u → F a = some u ∨ (Sees w' a u ∧ w.heap.size ≤ a.block)) ∧
      RowKit.Below w.heap.size w w' ∧ RelD F' (.list t) xs [u] ∧ growAt o u xs.length t.cells ∧ ∀ reg, o = some reg → w.heap.size ≤ reg.g ∧ reg.n ≤ reg.cap ∧ reg.cap ≤ maxLen ∧
        ∃ cur e', w'.heap[reg.g]? = some (.cells cur e' (0, 0)) ∧ cur.size = reg.cap * reg.sz ∧ ∀ ad, ad.block = reg.g → reg.n * reg.sz ≤ ad.off → F' ad = none := by
  unfold runE at hrun
  obtain ⟨h0, hrun⟩ := bif_some hrun
  have hn := Nat.le_of_ble_eq_true h0
  have hra := entry_rel (P := P) (fn := fn) hgl hF hlen hr hle hn
  have hH := fun k => lamE_ok (P := P) (gl := gl) (A := A) (I := I) (con := con) (fn := fn) (c := c) (fin := endO P fn t) hcon k
  have hw := code_sound (hH inlDepth) (inl_sound hH inlDepth) c (fun _ => endO P fn t) xs (fun m x hx => hx) n _ _ _ w hrun hra
  refine calls_of_wp hf hb (wp_mono hw ?_)
  have fin : ∀ a w', Fam P w.heap.size ⟨w, F, gl, hgl⟩ 0 fn.ntmps (fun _ _ => undef) n (fun _ => endO P fn t .ret) xs a w' → a.defers = [] ∧ ∃ v, (results fn a.tmps).run P w' = .ok v w' ∧ ∃ u F' o, Ending.returned v = .returned u ∧ F.le F' ∧ (∀ a u, F' a = some u → F a = some u ∨ (Sees w' a u ∧ w.heap.size ≤ a.block)) ∧
      RowKit.Below w.heap.size w w' ∧ RelD F' (.list t) xs [u] ∧ growAt o u xs.length t.cells ∧ ∀ reg, o = some reg → w.heap.size ≤ reg.g ∧ reg.n ≤ reg.cap ∧ reg.cap ≤ maxLen ∧
        ∃ cur e', w'.heap[reg.g]? = some (.cells cur e' (0, 0)) ∧ cur.size = reg.cap * reg.sz ∧ ∀ ad, ad.block = reg.g → reg.n * reg.sz ≤ ad.off → F' ad = none := by
    rintro a w' ⟨m', hm', st', M', h, hk⟩
    refine ⟨h.defers, ?_⟩
    obtain ⟨v, u, hu, ho, hv⟩ := endO_ret h hk
    obtain ⟨F', o, k1, k2, k3, k4, k5⟩ := outO_sound h.rel ho hv
    refine ⟨u, hu, u, F', o, rfl, h.rel.F0.trans k1, ?_, h.rel.below, k3, k4, k5⟩
    intro ad x hx
    rcases k2 ad x hx with h1 | h1
    · rcases h.rel.Fnew ad x h1 with h5 | h5
      · exact .inl h5
      · exact .inr ⟨h.rel.F ad x h1, h5⟩
    · exact .inr h1
  intro e a w' hp
  cases e with
  | normal => exact fin a w' hp
  | ret => exact fin a w' hp
  | exit i =>
    obtain ⟨m', _, st', M', _, hk⟩ := hp
    simp only [endO] at hk
    cases hk
  | goto l => exact hp.elim
  | panic c => exact hp.elim
  | outgrown => exact hp.elim

end
end Go.Ab
