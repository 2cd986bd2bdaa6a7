/-
  The calls that are walked in place; a function from its arguments to its result.
-/
import Derived.Test.YtlhbebagmkeghaaAb15
namespace Go.Ab
variable {R : Type}

theorem Rel.congr {P : Program} {base : Nat} {w0 : Orig} {dp : Nat} {st : St} {θ θ' : Nat → Nat → Value} {M : Me} {w : World} (h : Rel P base w0 dp st θ M w) (he : ∀ d t, d ≤ dp → θ d t = θ' d t) : Rel P base w0 dp st θ' M w :=
  { h with tm := fun d t hd => by rw [← he d t hd]; exact h.tm d t hd }

section
variable {P : Program} {base : Nat} {w0 : Orig}

/-- The contexts with calls walked in place so many deep. -/
noncomputable def ctxF (P : Program) (L : Nat → List Nat → List V → Option R) (A : List (List Nat × Ann)) (I : List (List Nat × Nat)) (con : Nat → List V → (V → Option R) → Option R) (k : Nat) (m : Nat) : Ctx R := ctxI P (L m) A I con k

theorem ctxI_P (L : List Nat → List V → Option R) (A : List (List Nat × Ann)) (I : List (List Nat × Nat)) (con : Nat → List V → (V → Option R) → Option R) (k : Nat) :
    (ctxI P L A I con k).P = P ∧ (ctxI P L A I con k).A = A ∧ (ctxI P L A I con k).I = I ∧ (ctxI P L A I con k).con = con ∧ (ctxI P L A I con k).L = L := by
  cases k <;> exact ⟨rfl, rfl, rfl, rfl, rfl⟩

/-- The end of a body that was walked. -/
theorem body_end {θ : Nat → Nat → Value} {fn : Func} {dp nn m : Nat} {K : Nat → V → Kont R} {r : R} {R' : Ending → World → Prop}
    (hK : ∀ (m' : Nat) (st : St) (M : Me) (a : Act) (w : World) (v : V) (u : Value), m' ≤ m → RelA P base w0 dp nn st θ M a w → resV P fn dp st = some v → (results fn a.tmps).run P w = .ok u w → K m' v st = some r →
      ((∀ n, n < dp → v.le n = true → RelV (M.leave dp w) v u) ∧ ∀ tys x, tys.length = fn.results.size → packT tys v = some x → ∀ M' : Me, (M.leave dp w).F.le M'.F → RelV M' (unpackT tys x) u) → R' (.returned u) w) :
    ∀ e a w, Post P base w0 dp nn θ m (fun m => retK P fn dp (K m)) r e a w → bodyPost P fn R' e a w := by
  have fin : ∀ a w, Fam P base w0 dp nn θ m (fun m => retK P fn dp (K m) .ret) r a w → a.defers = [] ∧ ∃ v, (results fn a.tmps).run P w = .ok v w ∧ R' (.returned v) w := by
    rintro a w ⟨m', hm', st, M, h, hk⟩
    refine ⟨h.defers, ?_⟩
    simp only [retK] at hk
    split at hk
    case h_2 => cases hk
    rename_i v hv
    obtain ⟨u, hu, hres⟩ := resV_sound h hv
    exact ⟨u, hu, hK m' st M a w v u hm' h hv hu hk hres⟩
  intro e a w hp
  cases e with
  | normal => exact fin a w hp
  | ret => exact fin a w hp
  | exit i =>
    obtain ⟨m', _, st, M, _, hk⟩ := hp
    simp only [retK] at hk
    cases hk
  | goto l => exact hp.elim
  | panic c => exact hp.elim
  | outgrown => exact hp.elim

theorem inl_sound {L : Nat → List Nat → List V → Option R} {A : List (List Nat × Ann)} {I : List (List Nat × Nat)} {con : Nat → List V → (V → Option R) → Option R} {root : Nat → Labels R} (hH : ∀ k, CtxOk P (ctxF P L A I con k) root) :
    ∀ k, InlOk P base w0 (ctxF P L A I con k) root
  | 0 => by
    intro d path g KV _ m args st r M θ w vals hs
    simp only [ctxF, ctxI] at hs
    cases hs
  | k + 1 => by
    intro d path g KV hsub m args st r M θ w vals hs h hlen hr hle
    simp only [ctxF, ctxI] at hs
    split at hs
    case h_2 => cases hs
    rename_i fn hf
    split at hs
    case h_2 => cases hs
    rename_i c hb
    obtain ⟨h0, hs2⟩ := bif_some hs
    clear hs
    simp only [Bool.and_eq_true] at h0
    have hn := Nat.le_of_ble_eq_true h0.1
    have hent : entersB P g = true := h0.2
    refine ⟨hent, ?_⟩
    have hra := enter_rel (fn := fn) h hlen hr hle hn
    have hsub' : ∀ m x, x ∈ labelsC (ctxF P L A I con k m) (d + 1) fn.ntmps path c (retK P fn (d + 1) (leaveK d (KV m))) → x ∈ root m := by
      intro m x hx
      refine hsub m x ?_
      simp only [ctxF, ctxI, hf, hb]
      exact hx
    have hw := code_sound (hH k) (inl_sound hH k) c (fun m => retK P fn (d + 1) (leaveK d (KV m))) r hsub' m _ M _ w hs2 hra
    refine calls_of_wp hf hb (wp_mono hw (body_end (K := fun m => leaveK d (KV m)) ?_))
    intro m' st' M' a' w' v u hm' h' hv hu hk hres
    unfold leaveK at hk
    obtain ⟨hvl, hk⟩ := bif_some hk
    refine ⟨u, v, m', _, M'.leave (d + 1) w', hm', rfl, hk, (leave_rel h'.rel).congr ?_, hres.1 d (by omega) hvl, hvl⟩
    intro d' t hd'
    simp only [thA]
    rw [if_neg (by omega)]

theorem lam_ok {A : List (List Nat × Ann)} {I : List (List Nat × Nat)} {con : Nat → List V → (V → Option R) → Option R} {fn : Func} {c : Code} {fin : V → Option R} (hcon : ConOk P con) (k : Nat) :
    CtxOk P (ctxF P (lam P A I con fn c fin) A I con k) (fun m => labelsC (ctxI P (lam P A I con fn c fin m) A I con inlDepth) 0 fn.ntmps [] c (retK P fn 0 fun v _ => fin v)) where
  P_eq := fun m => (ctxI_P _ _ _ _ k).1
  A_eq := fun m m' => by unfold ctxF; rw [(ctxI_P _ _ _ _ k).2.1, (ctxI_P _ _ _ _ k).2.1]
  I_eq := fun m m' => by unfold ctxF; rw [(ctxI_P _ _ _ _ k).2.2.1, (ctxI_P _ _ _ _ k).2.2.1]
  con := fun m => by unfold ctxF; rw [(ctxI_P _ _ _ _ k).2.2.2.1]; exact hcon
  L := by
    intro m q vs r hl
    unfold ctxF at hl ⊢
    rw [(ctxI_P _ _ _ _ k).2.2.2.2] at hl
    rw [(ctxI_P _ _ _ _ k).2.1]
    cases m with
    | zero => simp only [lam] at hl; cases hl
    | succ m =>
      simp only [lam] at hl
      split at hl
      case h_2 => cases hl
      rename_i f an hf han
      exact ⟨m, f, an, rfl, hf, han, hl⟩

theorem entry_rel {F : Snap} {w : World} (hF : ∀ a u, F a = some u → Sees w a u) {fn : Func} {args : List V} {vals : List Value} (hlen : args.length = vals.length)
    (hr : ∀ (i : Nat) c u, args[i]? = some c → vals[i]? = some u → ∀ M : Me, M.F = F → RelV M c u) (hle : V.le.leL 0 args = true) (hn : args.length ≤ fn.ntmps) :
    RelA P w.heap.size ⟨w, F⟩ 0 fn.ntmps (enterSt St.empty 0 args) (fun _ _ => undef) ⟨F, fun _ _ => none, fun _ => none, 0⟩ (entryAct fn vals.toArray) w := by
  refine ⟨⟨hF, ?_, ?_, ?_, fun _ _ _ => rfl, fun _ _ _ _ _ _ _ h => (by cases h), fun _ _ _ _ _ h => (by cases h), fun _ _ h => (by cases h), fun k h => (by simp [enterSt, St.empty] at h), fun _ _ _ _ h => (by cases h), fun _ _ _ _ _ _ h => (by cases h), rfl, fun k _ => rfl, Nat.le_refl _, .refl _ _, .refl _, fun _ _ h => .inl h, fun _ _ h => (by cases h)⟩, ?_, rfl⟩
  · intro d t hd
    have e : d = 0 := by omega
    subst e
    simp only [enterSt, thA]
    simp only [if_true]; rw [setArgs_at, if_pos (Nat.zero_le _), clearD_at, if_pos rfl, entry_getD]
    simp only [Nat.sub_zero]
    cases hc : args[t]? with
    | none => exact .any _
    | some c =>
      have hlt : t < vals.length := by rw [← hlen]; exact (List.getElem?_eq_some_iff.1 hc).1
      have hu : vals[t]? = some vals[t] := List.getElem?_eq_getElem hlt
      have : vals.toArray.getD t undef = vals[t] := by simp [Array.getD_eq_getD_getElem?, hu]
      rw [this]
      exact hr t c _ hc hu _ rfl
  · intro d t hd
    have e : d = 0 := by omega
    subst e
    simp only [enterSt]
    rw [setArgs_at, if_pos (Nat.zero_le _), clearD_at, if_pos rfl]
    simp only [Nat.sub_zero]
    cases hc : args[t]? with
    | none => rfl
    | some c => exact leL_at hle hc
  · intro d s hd
    have e : d = 0 := by omega
    subst e
    simp only [enterSt]
    rw [clearB_at, if_pos rfl]
    trivial
  · simp only [entryAct, Array.size_append, List.size_toArray, Array.size_replicate]
    omega

/-- A function whose run by the evaluator gives y returns y. -/
theorem fun_sound {g : Nat} {fn : Func} {c : Code} (hf : P.funcs[g]? = some fn) (hb : fn.body = some c) {A : List (List Nat × Ann)} {I : List (List Nat × Nat)} {tys : List Ty} {con : Nat → List V → (V → Option (denT tys)) → Option (denT tys)} (hcon : ConOk P con)
    (hres : tys.length = fn.results.size) {n : Nat} {args : List V} {y : denT tys} (hrun : run P A I con fn c (packT tys) n args = some y) {F : Snap} {w : World} {vals : List Value} (hF : ∀ a u, F a = some u → Sees w a u)
    (hlen : args.length = vals.length) (hr : ∀ (i : Nat) c u, args[i]? = some c → vals[i]? = some u → ∀ M : Me, M.F = F → RelV M c u) (hle : V.le.leL 0 args = true) :
    Calls P g vals.toArray w fun e w' => ∃ u F', e = .returned u ∧ F.le F' ∧ (∀ a u, F' a = some u → F a = some u ∨ (Sees w' a u ∧ w.heap.size ≤ a.block)) ∧
      RowKit.Below w.heap.size w w' ∧ ∀ M : Me, F'.le M.F → RelV M (unpackT tys y) u := by
  unfold run at hrun
  obtain ⟨h0, hrun⟩ := bif_some hrun
  have hn := Nat.le_of_ble_eq_true h0
  have hra := entry_rel (P := P) (fn := fn) hF hlen hr hle hn
  have hH := fun k => lam_ok (P := P) (A := A) (I := I) (con := con) (fn := fn) (c := c) (fin := packT tys) hcon k
  have hw := code_sound (hH inlDepth) (inl_sound hH inlDepth) c (fun _ => retK P fn 0 fun v _ => packT tys v) y (fun m x hx => hx) n _ _ _ w hrun hra
  refine calls_of_wp hf hb (wp_mono hw (body_end (K := fun _ v _ => packT tys v) ?_))
  intro m' st' M' a' w' v u _ h' hv hu hk hres'
  refine ⟨u, (M'.leave 0 w').F, rfl, h'.rel.F0.trans (leave_Fle 0), ?_, h'.rel.below, fun M hM => hres'.2 tys y hres hk M hM⟩
  intro ad x hx
  rcases leave_F0 hx with h1 | ⟨_, ⟨s, k, h3⟩ | ⟨_, k, reg, h3, h6⟩, h4⟩
  · rcases h'.rel.Fnew ad x h1 with h5 | h5
    · exact .inl h5
    · exact .inr ⟨h'.rel.F ad x h1, h5⟩
  · have hbx := h'.rel.bx 0 s (Nat.le_refl _)
    split at hbx
    · rw [hbx] at h3; cases h3
    · obtain ⟨b, T, arr, k1, k2, _⟩ := hbx
      rw [h3] at k1; cases k1; exact .inr ⟨h4, k2⟩
    · obtain ⟨b, T, arr, k1, k2, _⟩ := hbx
      rw [h3] at k1; cases k1; exact .inr ⟨h4, k2⟩
    · obtain ⟨b, ms, c, k1, k2, _⟩ := hbx
      rw [h3] at k1; cases k1; exact .inr ⟨h4, k2⟩
  · obtain ⟨_, _, h5⟩ := h'.rel.tok k _ h3
    exact .inr ⟨h4, by rw [← h6]; exact (h5 reg rfl).1⟩

end
end Go.Ab
