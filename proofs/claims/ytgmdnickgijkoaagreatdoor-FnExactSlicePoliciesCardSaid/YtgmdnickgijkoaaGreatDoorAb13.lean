import Derived.Test.YtgmdnickgijkoaaGreatDoorAb12n
namespace Go.Ab
variable {R : Type}
theorem Qj0 {P : Program} {g : Nat} {args : Array Value} {w : World} (h : Vm P g = true) : (callFunc g args).run P w = .ok (.enter g args) w := by
 unfold Vm at h
 split at h
 ·rename_i fn hf
  simp only [Bool.and_eq_true, Bool.not_eq_true'] at h
  have hn : fn.name ≠ "runtime.NumGoroutine" := by simpa using h.2
  have hb : fn.body ≠ none := by
   intro e; rw [e] at h; simp at h
  simp [callFunc, hf, hn, hb]
 ·cases h
def AOK (P : Program) (gl : Nat → Option (List V)) (g : Nat) (args : List V) (v : V) : Prop :=
 Vm P g = true ∧ (∀ n, v.le n = true) ∧
 ∀ (M : Me) (w : World) (vals : List Value), GlobOk gl M.F → (∀ a u, M.F a = some u → Sees w a u) → args.length = vals.length → (∀ (i : Nat) c u, args[i]? = some c → vals[i]? = some u → RelV M c u) →
  Calls P g vals.toArray w fun e w' => ∃ u F', e = .returned u ∧ M.F.le F' ∧ (∀ a u, F' a = some u → M.F a = some u ∨ (Sees w' a u ∧ w.heap.size ≤ a.block)) ∧
   RowKit.Below w.heap.size w w' ∧ RelV ⟨F', M.μ, M.τ, M.N, M.D⟩ v u
def QGC (P : Program) (gl : Nat → Option (List V)) (g : Nat) (args : List V) (t : Ty) (xs : List t.den) : Prop :=
 Vm P g = true ∧
 ∀ (M : Me) (w : World) (vals : List Value), GlobOk gl M.F → (∀ a u, M.F a = some u → Sees w a u) → args.length = vals.length → (∀ (i : Nat) c u, args[i]? = some c → vals[i]? = some u → RelV M c u) →
  Calls P g vals.toArray w fun e w' => ∃ u F' o, e = .returned u ∧ M.F.le F' ∧ (∀ a u, F' a = some u → M.F a = some u ∨ (Sees w' a u ∧ w.heap.size ≤ a.block)) ∧
   RowKit.Below w.heap.size w w' ∧ RelD F' (.list t) xs [u] ∧ Qqx o u xs.length t.cells ∧ ∀ reg, o = some reg → w.heap.size ≤ reg.g ∧ reg.n ≤ reg.cap ∧ reg.cap ≤ maxLen ∧
    ∃ cur e', w'.heap[reg.g]? = some (.cells cur e' (0, 0)) ∧ cur.size = reg.cap * reg.sz ∧ ∀ ad, ad.block = reg.g → reg.n * reg.sz ≤ ad.off → F' ad = none
def QGD (P : Program) (gl : Nat → Option (List V)) (g : Nat) (args : List V) (v : V) : Prop :=
 Vm P g = true ∧
 ∀ (M : Me) (w : World) (vals : List Value), GlobOk gl M.F → (∀ a u, M.F a = some u → Sees w a u) → args.length = vals.length → (∀ (i : Nat) c u, args[i]? = some c → vals[i]? = some u → RelV M c u) →
  Calls P g vals.toArray w fun e w' => ∃ u bs, e = .returned u ∧ RowKit.Below w.heap.size w w' ∧ ZV w' v u bs ∧ bs.Nodup ∧ ∀ c ∈ bs, w.heap.size ≤ c
def QGv (P : Program) (g : Nat) (args : List V) (v : V) : Prop :=
 ∀ (x : V) (k k' : Int) (b : V), args = [x, .d (.int .i64) k] → v = .tup [.d (.int .i64) k', b] → Vm P g = true ∧
 ∀ (w : World) (u : Value) (bs : List Nat), x.dokV = true → ZV w x u bs → bs.Nodup → inK .i64 k = true →
  Calls P g #[u, .int .i64 k] w fun e w' => e = .returned (.int .i64 k') ∧ inK .i64 k' = true ∧ ZV w' b u bs ∧ BelowX bs w w'
def QGw (P : Program) (gl : Nat → Option (List V)) (g : Nat) (args : List V) (v : V) : Prop :=
 (g < JJ → AOK P gl g args v) ∧ (JJ ≤ g → g < YS → ∀ (t : Ty) (xs : List t.den), v = .d (.list t) xs → QGC P gl (g - JJ) args t xs) ∧
 (YS ≤ g → g < Ua → QGD P gl (g - YS) args v) ∧ (Ua ≤ g → QGv P (g - Ua) args v)
def QwP (P : Program) (gl : Nat → Option (List V)) (con : Nat → List V → (V → Option R) → Option R) : Prop :=
 ∀ g args K r, con g args K = some r → ∃ v, K v = some r ∧ QGw P gl g args v
section
variable {P : Program} {base : Nat} {w0 : Orig} {θ : Nat → Nat → Value} {CF : Nat → Ctx R} {root : Nat → Qbd R}
structure CtxOk (P : Program) (gl : Nat → Option (List V)) (CF : Nat → Ctx R) (root : Nat → Qbd R) : Prop where
 P_eq : ∀ m, (CF m).P = P
 A_eq : ∀ m m', (CF m).A = (CF m').A
 I_eq : ∀ m m', (CF m).I = (CF m').I
 con : ∀ m, QwP P gl (CF m).con
 L : ∀ m q vs r, (CF m).L q vs = some r → ∃ m' f an, m = m' + 1 ∧ QmG (root m') q = some f ∧ Y9 (CF m).A q = some an ∧ f { QW an vs with gl := gl } = some r
def QA0 (P : Program) (base : Nat) (w0 : Orig) (CF : Nat → Ctx R) (root : Nat → Qbd R) : Prop :=
 ∀ (d : Nat) (path : List Nat) (g : Nat) (KV : Nat → V → Jz R), (∀ m x, x ∈ (CF m).lab d path g (KV m) → x ∈ root m) → ∀ (m : Nat) (args : List V) (st : St) (r : R) (M : Me) (θ : Nat → Nat → Value) (w : World) (vals : List Value),
  (CF m).inl d path g args (KV m) st = some r → Rel P base w0 d st θ M w → args.length = vals.length → (∀ (i : Nat) c u, args[i]? = some c → vals[i]? = some u → RelV M c u) → V.le.leL d args = true →
  Vm P g = true ∧ Calls P g vals.toArray w fun e w' => ∃ u v m' st' M', m' ≤ m ∧ e = .returned u ∧ KV m' v st' = some r ∧ Rel P base w0 d st' θ M' w' ∧ RelV M' v u ∧ v.le d = true
def Fam (P : Program) (base : Nat) (w0 : Orig) (dp nn : Nat) (θ : Nat → Nat → Value) (N : Nat) (K : Nat → Jz R) (r : R) (a : Act) (w : World) : Prop :=
 ∃ m, m ≤ N ∧ QEr P base w0 dp nn θ (K m) r a w
theorem QCt {dp nn : Nat} {st : St} {M : Me} {a : Act} {w : World} (h : RelA P base w0 dp nn st θ M a w) (xs : Array Operand) : (xs.toList.map (st.ev dp)).length = (xs.map a.eval).toList.length ∧
  (∀ (i : Nat) c u, (xs.toList.map (st.ev dp))[i]? = some c → (xs.map a.eval).toList[i]? = some u → RelV M c u) ∧ V.le.leL dp (xs.toList.map (st.ev dp)) = true := by
 refine ⟨by simp, ?_, ?_⟩
 ·intro i c u hc hu
  rw [List.getElem?_map] at hc
  rw [Array.toList_map, List.getElem?_map] at hu
  cases hx : xs.toList[i]? with
  | none => rw [hx] at hc; cases hc
  | some x =>
   rw [hx] at hc hu
   simp only [Option.map_some, Option.some.injEq] at hc hu
   subst hc; subst hu
   exact (h.ev x).1
 ·refine Qbg fun c hc => ?_
  obtain ⟨x, _, rfl⟩ := List.mem_map.1 hc
  exact (h.ev x).2
theorem Qy8 {n : Nat} {cs ds : List V} (h : V.le.leL n cs = true) (h' : V.le.leL n ds = true) : V.le.leL n (cs ++ ds) = true := by
 refine Qbg fun c hc => ?_
 rcases List.mem_append.1 hc with hc | hc
 ·obtain ⟨j, hj⟩ := List.getElem?_of_mem hc; exact Va h hj
 ·obtain ⟨j, hj⟩ := List.getElem?_of_mem hc; exact Va h' hj
theorem QmU {a b : Nat} (h : Nat.blt a b = true) : a < b := Nat.le_of_ble_eq_true h
theorem QsA {g : Nat} (h : g < JJ) : g + JJ < YS ∧ g + YS < Ua := by
 unfold JJ YS Ua at *
 omega
def QFp (P : Program) (gl : Nat → Option (List V)) (dr : Nat → Option RBox) (g : Nat) (args : List V) (v : V) : Prop :=
 Vm P g = true ∧ (∀ n, v.le n = true) ∧
 ∀ (base nd dp : Nat) (M : Me) (w : World) (vals : List Value), GlobOk gl M.F → (∀ a u, M.F a = some u → Sees w a u) → DpInv base dr nd M w → args.length = vals.length → (∀ (i : Nat) c u, args[i]? = some c → vals[i]? = some u → RelV M c u) → V.le.leL dp args = true →
  Calls P g vals.toArray w fun e w' => ∃ u F', e = .returned u ∧ M.F.le F' ∧ (∀ a u, F' a = some u → M.F a = some u ∨ (Sees w' a u ∧ w.heap.size ≤ a.block)) ∧
   RowKit.Below w.heap.size w w' ∧ RelV ⟨F', M.μ, M.τ, M.N, M.D⟩ v u
theorem QCu {gl : Nat → Option (List V)} {con : Nat → List V → (V → Option R) → Option R} (hcon : QwP P gl con) {st : St} {g : Nat} {args : List V} {K : V → Option R} {r : R} (hs : QEX con st g args K = some r) (hg : g < JJ) : ∃ v, K v = some r ∧ QFp P gl st.dr g args v := by
 unfold QEX at hs
 split at hs
 ·obtain ⟨v, k1, hA⟩ := hcon g _ _ r hs
  obtain ⟨hb, hvl, hall⟩ := hA.1 hg
  exact ⟨v, k1, hb, hvl, fun _ _ _ M w vals h1 h2 _ h3 h4 _ => hall M w vals h1 h2 h3 h4⟩
 ·obtain ⟨v, k1, hA⟩ := hcon g _ _ r hs
  obtain ⟨hsc, k1⟩ := Qk k1
  obtain ⟨hb, hvl, hall⟩ := hA.1 hg
  refine ⟨v, k1, hb, hvl, fun _ _ dp M w vals h1 h2 hd h3 h4 h5 => ?_⟩
  obtain ⟨l1, l2⟩ := QyX (st := st) hd rfl dp args vals h3 h4 h5
  refine (hall { M with F := M.lend w } w vals (h1.mono QBC) (QAV h2) l1 l2).mono fun e w' => ?_
  rintro ⟨u, F', he, _, _, q3, q4⟩
  exact ⟨u, M.F, he, .refl _, fun _ _ h => .inl h, q3, QFZ hsc q4⟩
theorem Qy9 (H : CtxOk P w0.gl CF root) (HI : QA0 P base w0 CF root) {dp nn : Nat} {path : List Nat} {here : Nat} {o : Oper} {K : Nat → Jz R} (hsub : ∀ g, Y9 (CF 0).I (here :: path) = some g → ∀ m x, x ∈ (CF m).lab dp (here :: path) g (fun v st => K m (st.put dp o.dst v)) → x ∈ root m)
  {m : Nat} {st : St} {M : Me} {a : Act} {w : World} {r : R} (h : RelA P base w0 dp nn st θ M a w) (hd : QmE nn o = true) (hc : Qbe o = true) (hs : Jf (CF m) dp path here o st (K m) = some r) (Q : Exit → Act → World → Prop) :
  o.wp P a w (Fam P base w0 dp nn θ m K r) Q := by
 unfold Qbe at hc
 split at hc
 case h_2 => cases hc
 rename_i f args argTypes hop
 simp only [Jf, hop] at hs
 split at hs
 case h_2 => cases hs
 rename_i g caps hf
 have hfv := h.ev f
 rw [hf] at hfv
 obtain ⟨hfr, hfl⟩ := hfv
 obtain ⟨arr, hfval, hcl, hca⟩ : ∃ arr, a.eval f = .func (.func g) #[] arr ∧ caps.length = arr.size ∧ ∀ (i : Nat) (c : V) (u : Value), caps[i]? = some c → arr[i]? = some u → RelV M c u := by
  generalize a.eval f = vf at hfr
  cases hfr with
  | fn g cs arr hl ha => exact ⟨arr, rfl, hl, ha⟩
 obtain ⟨al, aa, ale⟩ := QCt h args
 have hlen : (args.toList.map (st.ev dp) ++ caps).length = ((args.map a.eval).toList ++ arr.toList).length := by simp [hcl]
 have hrel : ∀ (i : Nat) c u, (args.toList.map (st.ev dp) ++ caps)[i]? = some c → ((args.map a.eval).toList ++ arr.toList)[i]? = some u → RelV M c u := by
  intro i c u hc hu
  by_cases hi : i < (args.toList.map (st.ev dp)).length
  ·rw [List.getElem?_append_left hi] at hc
   rw [List.getElem?_append_left (by rw [← al]; exact hi)] at hu
   exact aa i c u hc hu
  ·rw [List.getElem?_append_right (by omega)] at hc
   rw [List.getElem?_append_right (by omega), ← al] at hu
   exact hca _ c u hc (by simpa using hu)
 have hle : V.le.leL dp (args.toList.map (st.ev dp) ++ caps) = true := Qy8 ale hfl
 have hvals : ((args.map a.eval).toList ++ arr.toList).toArray = args.map a.eval ++ arr := by simp
 have hexec : Vm P g = true → (execOp a.eval o).run P w = .ok (.enter g (args.map a.eval ++ arr)) w := by
  intro hb
  simp [execOp, hop, resolve, hfval, Deferred.ofValue, invoke, Qj0 hb]
 have hI := H.I_eq m 0
 split at hs
 ·rename_i g' hg
  cases hgg : Nat.beq g g' with
  | false =>
   rw [hgg, cond_false] at hs
   obtain ⟨hlt, hs1⟩ := Qk hs
   clear hs
   have hlt : g < JJ := QmU hlt
   obtain ⟨hm1, hm2⟩ := QsA hlt
   cases hgo : Nat.beq (g + JJ) g' with
   | false =>
    rw [hgo, cond_false] at hs1
    cases hgd : Nat.beq (g + YS) g' with
    | true =>
     rw [hgd, cond_true] at hs1
     have hs2 := hs1
     clear hs1
     have hgd := Nat.eq_of_beq_eq_true hgd
     subst hgd
     obtain ⟨v, k1, hA⟩ := H.con m _ _ _ r hs2
     obtain ⟨hb, hall⟩ := hA.2.2.1 (Nat.le_add_left _ _) hm2
     rw [Nat.add_sub_cancel] at hb hall
     obtain ⟨l1, l2⟩ := QyX (st := st) h.rel.dpi rfl dp _ _ hlen hrel hle
     have hcalls := hall { M with F := M.lend w } w _ ((w0.ok.mono h.rel.F0).mono QBC) (QAV h.rel.F) l1 l2
     rw [hvals] at hcalls
     unfold Oper.wp
     rw [hexec hb, Oper.upon_enter]
     refine hcalls.mono fun e w' => ?_
     rintro ⟨u, bs, rfl, q3, q4, q5, q6⟩
     have hext := h.rel.ext (M' := M) (w' := w') (.refl _ _) q3.size (fun k hk => q3.block k hk) (fun _ _ h => .inl h) rfl rfl rfl rfl (h.rel.below.trans (q3.mono h.rel.hb))
     obtain ⟨D', d1, d2, d3, d4, _⟩ := QCl v st M u bs hext q4 q5 (fun c hc => Qsx h.rel (q6 c hc))
     exact ⟨m, Nat.le_refl _, _, _, (RelA.mk d2 h.size h.defers).put (Vb hd) d3 d4, k1⟩
    | false =>
     rw [hgd, cond_false] at hs1
     obtain ⟨hgh, hs2⟩ := Qk hs1
     clear hs1
     have hgh := Nat.eq_of_beq_eq_true hgh
     subst hgh
     split at hs2
     case h_2 => cases hs2
     rename_i av kk hargs
     obtain ⟨hok, hs2⟩ := Qk hs2
     obtain ⟨v, k1, hA⟩ := H.con m _ _ _ r hs2
     unfold QGt at k1
     split at k1
     case h_2 => cases k1
     rename_i k' b
     obtain ⟨st', hst', k1⟩ := Option.bind_eq_some_iff.1 k1
     have hA := hA.2.2.2 (Nat.le_add_left _ _)
     rw [Nat.add_sub_cancel] at hA
     rw [hargs] at hlen hrel hle
     obtain ⟨hb, hall⟩ := hA _ kk k' b rfl rfl
     obtain ⟨ua, uk, hv2⟩ : ∃ ua uk, ((args.map a.eval).toList ++ arr.toList) = [ua, uk] := by
      generalize ((args.map a.eval).toList ++ arr.toList) = l at hlen
      match l, hlen with
      | [ua, uk], _ => exact ⟨ua, uk, rfl⟩
     rw [hv2] at hrel hvals
     have hra := hrel 0 av ua rfl rfl
     obtain ⟨rfl, hkk⟩ := (hrel 1 _ uk rfl rfl).int_inv
     have hok' := hok
     unfold V.hotOk at hok'
     simp only [Bool.and_eq_true] at hok'
     obtain ⟨⟨⟨hdok, hn⟩, _⟩, hform⟩ := hok'
     have hdeep : ZV w (st.res av) ua (M.blk av.drs) := by
      cases av with
      | dr k =>
       obtain ⟨bx, hbx⟩ : ∃ bx, st.dr k = some bx := by
        unfold V.hotOk at hok
        simp only [V.drs, List.all_cons, List.all_nil, Bool.and_true, Bool.and_eq_true] at hok
        exact Option.isSome_iff_exists.1 hok.2
       exact (QjY h.rel.dpi (v := .dr k) (by simp [V.dpart, hbx]) hra).1
      | agg cs =>
       obtain ⟨arr', rfl, hl'⟩ := hra.aggL
       exact ⟨arr', rfl, QcL h.rel.dpi hform hl'⟩
      | _ => simp at hform
     have hcalls := hall w ua _ hdok hdeep (h.rel.dpi.blk_nodup (WJ.1 hn)) hkk
     have hvals' : (args.map a.eval ++ arr) = #[ua, .int .i64 kk] := by rw [← hvals]
     unfold Oper.wp
     rw [hexec hb, Oper.upon_enter, hvals']
     refine hcalls.mono fun e w' => ?_
     rintro ⟨rfl, q2, q3, q4⟩
     obtain ⟨M', m1, m2⟩ := QBD h.rel hra hok hst' q3 q4
     exact ⟨m, Nat.le_refl _, _, _, (RelA.mk m2 h.size h.defers).put (Vb hd) (.mkInt q2) rfl, k1⟩
   | true =>
   rw [hgo, cond_true] at hs1
   have hs2 := hs1
   clear hs1
   have hgo := Nat.eq_of_beq_eq_true hgo
   subst hgo
   obtain ⟨v, k1, hA⟩ := H.con m _ _ _ r hs2
   unfold QGr at k1
   split at k1
   case h_2 => cases k1
   rename_i t xs
   obtain ⟨hb, hall⟩ := hA.2.1 (Nat.le_add_left _ _) hm1 t xs rfl
   rw [Nat.add_sub_cancel] at hb hall
   have hcalls := hall M w _ (w0.ok.mono h.rel.F0) h.rel.F hlen hrel
   rw [hvals] at hcalls
   unfold Oper.wp
   rw [hexec hb, Oper.upon_enter]
   refine hcalls.mono fun e w' => ?_
   rintro ⟨u, F', og, rfl, q1, q2, q3, q4, q5, q6⟩
   have hext := h.rel.ext (M' := ⟨F', M.μ, M.τ, M.N, M.D⟩) (w' := w') ⟨q1, fun _ _ _ _ h => h, Nat.le_refl _, fun _ _ _ h => h, .refl _⟩ q3.size (fun k hk => q3.block k hk) q2 rfl rfl rfl rfl (h.rel.below.trans (q3.mono h.rel.hb))
   have hmint := hext.mint (.refl _) none og (fun k hk => by cases hk) hext.F (fun d s b n ad hm hb => hext.Fbox d s b n ad hm hb) (fun _ _ _ _ _ => rfl) (fun k r' hk _ => by
     obtain ⟨_, _, q⟩ := hext.tok k _ hk
     obtain ⟨_, _, _, _, _, _, _, q'⟩ := q r' rfl
     exact ⟨rfl, q'⟩) (fun reg hreg => by
     obtain ⟨p1, p2, p3, p4⟩ := q6 reg hreg
     refine ⟨Nat.le_trans h.rel.hb p1, p2, p3, p4, fun k r' hk _ e => ?_, fun d s b n hm e => ?_⟩
     ·obtain ⟨_, _, q⟩ := h.rel.tok k _ hk
      obtain ⟨_, _, _, cur, e', hh, _⟩ := q r' rfl
      have := (Array.getElem?_eq_some_iff.1 hh).1
      omega
     ·have := h.rel.box_lt hm
      omega) (Nat.le_refl _) hext.below (fun _ _ h => .inl h) (fun _ _ _ _ _ _ h => h) (fun c hc => ⟨rfl, fun a ha => hext.dpi.F hc ha, fun reg hreg e => by
     have := (q6 reg hreg).1
     have := h.rel.dpi.lt hc
     omega⟩)
   refine ⟨m, Nat.le_refl _, _, _, (RelA.mk hmint h.size h.defers).put (v := .own st.nt t xs) (Vb hd) ?_ rfl, k1⟩
   refine .own _ _ _ _ q4 ?_ ?_
   ·show st.nt < M.N + 1
    rw [h.rel.N]; exact Nat.lt_succ_self _
   ·intro reg hreg
    simp only [Me.mint] at hreg
    rw [if_pos h.rel.N.symm] at hreg
    cases hreg
    exact q5
  | true =>
  rw [hgg] at hs
  have hs2 := hs
  clear hs
  have hgg := Nat.eq_of_beq_eq_true hgg
  subst hgg
  rw [hI] at hg
  obtain ⟨hb, hcalls⟩ := HI dp (here :: path) g (fun m v st => K m (st.put dp o.dst v)) (hsub g hg) m _ st r M _ w _ hs2 h.rel hlen hrel hle
  rw [hvals] at hcalls
  unfold Oper.wp
  rw [hexec hb, Oper.upon_enter]
  refine hcalls.mono fun e w' => ?_
  rintro ⟨u, v, m', st', M', hm', rfl, k1, k2, k3, k4⟩
  exact ⟨m', hm', _, _, (RelA.mk k2 h.size h.defers).put (Vb hd) k3 k4, k1⟩
 ·obtain ⟨hlt, hs⟩ := Qk hs
  have hlt : g < JJ := QmU hlt
  obtain ⟨v, k1, hb, hvl, hall⟩ := QCu (H.con m) hs hlt
  have hcalls := hall base _ dp M w _ (w0.ok.mono h.rel.F0) h.rel.F h.rel.dpi hlen hrel hle
  rw [hvals] at hcalls
  unfold Oper.wp
  rw [hexec hb, Oper.upon_enter]
  refine hcalls.mono fun e w' => ?_
  rintro ⟨u, F', rfl, q1, q2, q3, q4⟩
  have hext := h.rel.ext (M' := ⟨F', M.μ, M.τ, M.N, M.D⟩) (w' := w') ⟨q1, fun _ _ _ _ h => h, Nat.le_refl _, fun _ _ _ h => h, .refl _⟩ q3.size (fun k hk => q3.block k hk) q2 rfl rfl rfl rfl (h.rel.below.trans (q3.mono h.rel.hb))
  exact ⟨m, Nat.le_refl _, _, _, (RelA.mk hext h.size h.defers).put (Vb hd) q4 (hvl dp), k1⟩
theorem QoM {dp nn : Nat} {ops : Array Oper} {j t : Nat} {bv : Bool} {st : St} {M : Me} {a : Act} {w : World} (h : RelA P base w0 dp nn st θ M a w) (hdst : QwK ops.toList j = some t) (hbv : st.tm dp t = .d .bool bv) :
  yielded ops a.tmps j = some bv ∧ RelA P base w0 dp nn (st.set dp t (.d .bool bv)) θ M a w := by
 have htm := h.rel.tm dp t (Nat.le_refl _)
 rw [hbv] at htm
 have htv := htm.bool_inv
 simp only [thA, if_true] at htv
 have hy : yielded ops a.tmps j = some bv := by
  unfold QwK at hdst
  have hdst' : (ops[j]?).bind (·.dst) = some t := by simpa using hdst
  unfold yielded
  rw [hdst']
  have : a.tmps[t]? = some (.bool bv) := by
   rw [Array.getD_eq_getD_getElem?] at htv
   cases hq : a.tmps[t]? with
   | none => rw [hq] at htv; simp [undef] at htv
   | some q => rw [hq] at htv; simp at htv; rw [htv]
  simp [this]
 have htlt : t < nn := by
  rw [← h.size]
  rcases Nat.lt_or_ge t a.tmps.size with h1 | h1
  ·exact h1
  ·rw [Array.getD_eq_getD_getElem?, Array.getElem?_eq_none h1] at htv; simp [undef] at htv
 have hset : RelA P base w0 dp nn (st.set dp t (.d .bool bv)) θ M a w := by
  have := h.set (v := .d .bool bv) (u := .bool bv) htlt (.mkBool bv) rfl
  have e : a.put (some t) (.bool bv) = a := by
   unfold Act.put
   simp only
   congr 1
   apply Array.ext'
   rw [Array.toList_setIfInBounds]
   apply List.ext_getElem?
   intro k
   rw [List.getElem?_set]
   split
   ·rename_i hk
    subst hk
    have hlt : t < a.tmps.size := by rw [h.size]; exact htlt
    rw [if_pos (by simpa using hlt)]
    rw [Array.getD_eq_getD_getElem?, Array.getElem?_eq_getElem hlt] at htv
    simp only [Option.getD_some] at htv
    rw [List.getElem?_eq_getElem (by simpa using hlt)]
    simp [htv]
   ·rfl
  rwa [e] at this
 exact ⟨hy, hset⟩
theorem Qza {dp nn : Nat} {ops : Array Oper} {j t : Nat} {st : St} {M : Me} {a : Act} {w : World} (h : RelA P base w0 dp nn st θ M a w) (hdst : QwK ops.toList j = some t) (hun : st.tm dp t = .un) : yielded ops a.tmps j = none := by
 have htm := h.rel.tm dp t (Nat.le_refl _)
 rw [hun] at htm
 simp only [thA, if_true] at htm
 generalize hv : a.tmps.getD t undef = v at htm
 cases htm
 unfold QwK at hdst
 have hdst' : (ops[j]?).bind (·.dst) = some t := by simpa using hdst
 unfold yielded
 rw [hdst']
 rw [Array.getD_eq_getD_getElem?] at hv
 cases hq : a.tmps[t]? with
 | none => simp [hq]
 | some q => rw [hq] at hv; simp only [Option.getD_some] at hv; subst hv; simp [hq, undef]
theorem QA1 (H : CtxOk P w0.gl CF root) (HI : QA0 P base w0 CF root) {dp nn : Nat} {path : List Nat} {ops : Array Oper} {Q : Exit → Act → World → Prop} {K : Nat → Jz R} {r : R} {N : Nat} (hQ : ∀ a w, Fam P base w0 dp nn θ N K r a w → Q .normal a w) (b : Nat) :
  ∀ (rest : List Oper) (i : Nat), ops.toList.drop i = rest → (∀ m x, x ∈ QAg (CF m) dp nn path ops.toList (b + i) rest (K m) → x ∈ root m) →
   ∀ (m : Nat) (st : St) (M : Me) (a : Act) (w : World), m ≤ N → Qgq (CF m) dp nn path ops.toList (b + i) rest (K m) st = some r → RelA P base w0 dp nn st θ M a w → wpOps P ops Q (List.range' i rest.length) a w
 | [], i, _, _, m, st, M, a, w, hN, hs, h => by
  simp only [Qgq] at hs
  exact hQ a w ⟨m, hN, st, M, h, hs⟩
 | o :: rest, i, hdrop, hsub, m, st, M, a, w, hN, hs, h => by
  have hoi : ops[i]? = some o := by
   have : (ops.toList.drop i)[0]? = some o := by rw [hdrop]; rfl
   rw [List.getElem?_drop] at this
   simpa using this
  have hdrop' : ops.toList.drop (i + 1) = rest := by
   rw [← List.drop_drop, hdrop]; rfl
  have hsub1 : ∀ g, Y9 (CF 0).I ((b + i) :: path) = some g → ∀ m x, x ∈ (CF m).lab dp ((b + i) :: path) g (fun v st => Qgq (CF m) dp nn path ops.toList (b + i + 1) rest (K m) (st.put dp o.dst v)) → x ∈ root m := by
   intro g hg m x hx
   refine hsub m x ?_
   simp only [QAg]
   rw [H.I_eq m 0, hg]
   exact List.mem_append.2 (.inl hx)
  have hsub2 : ∀ m x, x ∈ QAg (CF m) dp nn path ops.toList (b + (i + 1)) rest (K m) → x ∈ root m := by
   intro m x hx
   refine hsub m x ?_
   simp only [QAg]
   exact List.mem_append.2 (.inr hx)
  have IH : ∀ a w, Fam P base w0 dp nn θ m (fun m => Qgq (CF m) dp nn path ops.toList (b + i + 1) rest (K m)) r a w → wpOps P ops Q (List.range' (i + 1) rest.length) a w := by
   rintro a w ⟨m', hm', st, M, h, hs⟩
   exact QA1 H HI hQ b rest (i + 1) hdrop' hsub2 m' st M a w (Nat.le_trans hm' hN) hs h
  have go : ∀ (st : St) (M : Me), RelA P base w0 dp nn st θ M a w → QmE nn o = true → Jf (CF m) dp path (b + i) o st (Qgq (CF m) dp nn path ops.toList (b + i + 1) rest (K m)) = some r → o.wp P a w (wpOps P ops Q (List.range' (i + 1) rest.length)) Q := by
   intro st M h hd hs
   refine Oper.wp_mono IH ?_
   cases hc : Qbe o with
   | true => exact Qy9 (K := fun m => Qgq (CF m) dp nn path ops.toList (b + i + 1) rest (K m)) H HI hsub1 h hd hc hs Q
   | false => exact Oper.wp_mono (fun a w hg => ⟨m, Nat.le_refl _, hg⟩) (QqJ (CF m) (H.P_eq m) h hd hc hs Q)
  simp only [Qgq] at hs
  obtain ⟨hd, hs2⟩ := Qk hs
  clear hs
  rw [List.length_cons, List.range'_succ]
  simp only [wpOps, hoi]
  split at hs2
  ·rename_i hg
   have hw : Region.wanted o (yielded ops a.tmps) = true := by simp [Region.wanted, hg]
   rw [if_pos hw]
   exact .inl (go st M h hd hs2)
  ·rename_i j want hg
   split at hs2
   case h_1 => cases hs2
   rename_i t hdst
   have hskip : ∀ st : St, RelA P base w0 dp nn st θ M a w → Qgq (CF m) dp nn path ops.toList (b + i + 1) rest (K m) (st.put dp o.dst .un) = some r → wpOps P ops Q (List.range' (i + 1) rest.length) (a.put o.dst undef) w := by
    intro st h hs
    exact IH _ _ ⟨m, Nat.le_refl _, _, M, h.put (Vb hd) .un rfl, hs⟩
   split at hs2
   case h_3 => cases hs2
   case h_2 =>
    rename_i hun
    have hwant : Region.wanted o (yielded ops a.tmps) = false := by simp [Region.wanted, hg, Qza h hdst hun]
    rw [if_neg (by rw [hwant]; decide)]
    exact hskip _ h hs2
   rename_i bv hbv
   obtain ⟨hy, hset⟩ := QoM h hdst hbv
   have hwant : Region.wanted o (yielded ops a.tmps) = (some bv == some want) := by simp [Region.wanted, hg, hy]
   cases bv with
   | true =>
    cases want with
    | true =>
     rw [if_pos (by rw [hwant]; rfl)]
     exact .inl (go _ M hset hd hs2)
    | false =>
     rw [if_neg (by rw [hwant]; decide)]
     exact hskip _ hset hs2
   | false =>
    cases want with
    | true =>
     rw [if_neg (by rw [hwant]; decide)]
     exact hskip _ hset hs2
    | false =>
     rw [if_pos (by rw [hwant]; rfl)]
     exact .inl (go _ M hset hd hs2)
theorem VB {i : Nat} : ∀ {l : List Nat}, Eq i l = true ↔ i ∈ l
 | [] => by simp [Eq]
 | j :: l => by
  simp only [Eq, Bool.or_eq_true, List.mem_cons, VB (l := l)]
  exact or_congr ⟨Nat.eq_of_beq_eq_true, fun h => by rw [h]; exact Nat.beq_refl _⟩ Iff.rfl
theorem Qj1 {i : Nat} {l : List Nat} (h : Eq i l = false) : i ∉ l := fun hm => by rw [VB.2 hm] at h; cases h
def unl (ops : Array Oper) (listed : Array Bool) : Nat := (Qqu ops listed).length
theorem QFq {ops : Array Oper} {listed : Array Bool} {i : Nat} : i ∈ Qqu ops listed ↔ i < ops.size ∧ listed.getD i true = false := by
 simp [Qqu]
theorem Qbk {ops : Array Oper} {listed : Array Bool} {i : Nat} : i ∈ Region.ready .any ops listed ↔ i < ops.size ∧ listed.getD i true = false ∧ ∀ p ∈ YQ ops i, listed.getD p false = true := by
 unfold Region.ready
 simp only [List.mem_filter, List.mem_range, Bool.and_eq_true, Bool.not_eq_true']
 constructor
 ·rintro ⟨h1, h2, h3⟩
  refine ⟨h1, h2, ?_⟩
  intro p hp
  unfold YQ at hp
  have ho : ops[i]? = some ops[i] := Array.getElem?_eq_getElem h1
  rw [ho] at hp h3
  simp only [Option.map_some, Option.getD_some] at h3
  unfold QoK at hp
  obtain ⟨e, he, rfl⟩ := List.mem_map.1 hp
  obtain ⟨he1, he2⟩ := List.mem_filter.1 he
  rw [Array.all_eq_true_iff_forall_mem] at h3
  have := h3 e (by simpa using he1)
  rw [he2] at this
  simpa using this
 ·rintro ⟨h1, h2, h3⟩
  refine ⟨h1, h2, ?_⟩
  have ho : ops[i]? = some ops[i] := Array.getElem?_eq_getElem h1
  rw [ho]
  simp only [Option.map_some, Option.getD_some]
  rw [Array.all_eq_true_iff_forall_mem]
  intro e he
  cases hb : Region.binds .any e with
  | false => rfl
  | true =>
   have := h3 e.on (by
    unfold YQ; rw [ho]; unfold QoK
    exact List.mem_map.2 ⟨e, List.mem_filter.2 ⟨by simpa using he, hb⟩, rfl⟩)
   simpa using this
theorem QsB {l : Array Bool} {i j : Nat} {d : Bool} (hi : i < l.size) : (l.setIfInBounds i true).getD j d = if j = i then true else l.getD j d := by
 rw [Array.getD_eq_getD_getElem?, Array.getD_eq_getD_getElem?, Array.getElem?_setIfInBounds]
 by_cases h : i = j
 ·subst h; simp [hi]
 ·rw [if_neg h, if_neg (fun e => h e.symm)]
theorem QD7 {ops : Array Oper} {l : Array Bool} {i : Nat} (hi : i < ops.size) (hl : l.size = ops.size) (hn : l.getD i true = false) : unl ops (l.setIfInBounds i true) + 1 ≤ unl ops l := by
 unfold unl Qqu
 have key : ∀ (xs : List Nat), xs.Nodup → i ∈ xs → (xs.filter fun j => !(l.setIfInBounds i true).getD j true).length + 1 ≤ (xs.filter fun j => !l.getD j true).length := by
  have le : ∀ (xs : List Nat), (xs.filter fun j => !(l.setIfInBounds i true).getD j true).length ≤ (xs.filter fun j => !l.getD j true).length := by
   intro xs
   induction xs with
   | nil => simp
   | cons x xs ih =>
    simp only [List.filter_cons]
    rw [QsB (by omega)]
    by_cases hx : x = i
    ·subst hx; rw [if_pos rfl]; simp only [hn, Bool.not_true, Bool.not_false, Bool.false_eq_true, if_false, if_true, List.length_cons]; omega
    ·rw [if_neg hx]; cases l.getD x true <;> simp only [Bool.not_true, Bool.not_false, Bool.false_eq_true, if_false, if_true, List.length_cons] <;> omega
  intro xs hnd hmem
  induction xs with
  | nil => cases hmem
  | cons x xs ih =>
   have hle := le xs
   rw [List.nodup_cons] at hnd
   simp only [List.filter_cons]
   rw [QsB (by omega)]
   by_cases hx : x = i
   ·subst hx; rw [if_pos rfl]; simp only [hn, Bool.not_true, Bool.not_false, Bool.false_eq_true, if_false, if_true, List.length_cons]; omega
   ·rw [if_neg hx]
    have := ih hnd.2 (by rcases List.mem_cons.1 hmem with h | h; exact absurd h.symm hx; exact h)
    cases l.getD x true <;> simp only [Bool.not_true, Bool.not_false, Bool.false_eq_true, if_false, if_true, List.length_cons] <;> omega
 exact key _ List.nodup_range (List.mem_range.2 hi)
def QFr (P : Program) (base : Nat) (w0 : Orig) (dp nn : Nat) (θ : Nat → Nat → Value) (ops : Array Oper) (Q : Exit → Act → World → Prop) (slots : List Nat) (q : Bool) (i : Nat) (e : Eff) (s : St) : Prop :=
 (e.boxed? = true → QB8 ops i = true ∧ ∀ t, Yn ops i = some t → s.bx dp t = .none) ∧ (e.grown? = true → Ey ops i = true) ∧
 ∀ st', (∀ t ∈ Qcs ops i, st'.tm dp t = s.tm dp t) → (∀ x y, (!(Nat.beq x dp && Eq y slots)) = true → st'.bx x y = s.bx x y) → ((q = true → st'.rw = s.rw) ∧ st'.dr = s.dr) → (e.boxed? = true → ∀ t, Yn ops i = some t → st'.bx dp t = .none) → (e.grown? = true → st'.nt = s.nt ∧ st'.lv = s.lv) →
  ∀ M a w, RelA P base w0 dp nn st' θ M a w → wpOp P ops Q i (fun a' w' => ∃ M', RelA P base w0 dp nn (e.app dp (Yn ops i) st') θ M' a' w') a w ∧
   ((ops[i]?.map Qhe).getD false = true → ∃ oi u, ops[i]? = some oi ∧ Yields P ops oi u a ∧ RelA P base w0 dp nn (e.app dp (Yn ops i) st') θ M (a.put oi.dst u) w)
theorem QFs {st : St} {d t : Nat} {v : V} (h : st.tm d t = v) : st.set d t v = st := by
 have : upd st.tm d t v = st.tm := by
  funext x y
  unfold upd
  cases h1 : Nat.beq y t && Nat.beq x d with
  | true =>
   simp only [Bool.and_eq_true] at h1
   rw [Nat.eq_of_beq_eq_true h1.1, Nat.eq_of_beq_eq_true h1.2]
   simp [h]
  | false => rfl
 unfold St.set
 rw [this]
theorem QFt {dp nn : Nat} {o : Oper} {st : St} {M : Me} {a : Act} {w : World} (h : RelA P base w0 dp nn st θ M a w) (hd : QmE nn o = true) {f : Operand} {args : Array Operand} {ats : Array TypeId} (hop : o.op = .call ⟨.value f, args, ats⟩) {g : Nat} {caps : List V} (hf : st.ev dp f = .fn g caps)
  {v : V} (hA : QFp P w0.gl st.dr g (args.toList.map (st.ev dp) ++ caps) v) (Q : Exit → Act → World → Prop) :
  o.wp P a w (fun a' w' => ∃ M', RelA P base w0 dp nn (st.put dp o.dst v) θ M' a' w') Q := by
 have hfv := h.ev f
 rw [hf] at hfv
 obtain ⟨hfr, hfl⟩ := hfv
 obtain ⟨arr, hfval, hcl, hca⟩ : ∃ arr, a.eval f = .func (.func g) #[] arr ∧ caps.length = arr.size ∧ ∀ (i : Nat) (c : V) (u : Value), caps[i]? = some c → arr[i]? = some u → RelV M c u := by
  generalize a.eval f = vf at hfr
  cases hfr with
  | fn g cs arr hl ha => exact ⟨arr, rfl, hl, ha⟩
 obtain ⟨al, aa, ale⟩ := QCt h args
 have hlen : (args.toList.map (st.ev dp) ++ caps).length = ((args.map a.eval).toList ++ arr.toList).length := by simp [hcl]
 have hrel : ∀ (i : Nat) c u, (args.toList.map (st.ev dp) ++ caps)[i]? = some c → ((args.map a.eval).toList ++ arr.toList)[i]? = some u → RelV M c u := by
  intro i c u hc hu
  by_cases hi : i < (args.toList.map (st.ev dp)).length
  ·rw [List.getElem?_append_left hi] at hc
   rw [List.getElem?_append_left (by rw [← al]; exact hi)] at hu
   exact aa i c u hc hu
  ·rw [List.getElem?_append_right (by omega)] at hc
   rw [List.getElem?_append_right (by omega), ← al] at hu
   exact hca _ c u hc (by simpa using hu)
 have hvals : ((args.map a.eval).toList ++ arr.toList).toArray = args.map a.eval ++ arr := by simp
 obtain ⟨hb, hvl, hall⟩ := hA
 have hexec : (execOp a.eval o).run P w = .ok (.enter g (args.map a.eval ++ arr)) w := by
  simp [execOp, hop, resolve, hfval, Deferred.ofValue, invoke, Qj0 hb]
 have hcalls := hall base _ dp M w _ (w0.ok.mono h.rel.F0) h.rel.F h.rel.dpi hlen hrel (Qy8 ale hfl)
 rw [hvals] at hcalls
 unfold Oper.wp
 rw [hexec, Oper.upon_enter]
 refine hcalls.mono fun e w' => ?_
 rintro ⟨u, F', rfl, q1, q2, q3, q4⟩
 have hext := h.rel.ext (M' := ⟨F', M.μ, M.τ, M.N, M.D⟩) (w' := w') ⟨q1, fun _ _ _ _ h => h, Nat.le_refl _, fun _ _ _ h => h, .refl _⟩ q3.size (fun k hk => q3.block k hk) q2 rfl rfl rfl rfl (h.rel.below.trans (q3.mono h.rel.hb))
 exact ⟨_, (RelA.mk hext h.size h.defers).put (Vb hd) q4 (hvl dp)⟩
open Classical in
theorem QGm (H : CtxOk P w0.gl CF root) {dp nn : Nat} {path : List Nat} {ops : Array Oper} {id : Nat} {slots : List Nat} {q : Bool} {K : Jz R} {r : R} {Q : Exit → Act → World → Prop} (m : Nat) {i : Nat} {o : Oper} (hi : ops[i]? = some o) (hpl : Qgw P (CF m).I path id ops i = true) {st : St} (hbxk : QGl dp slots q o st = true) (hqg : QjP o = true → q = false)
  (hs : Qgq (CF m) dp nn path ops.toList (1000 * id + i) [o] K st = some r) : ∃ e : Eff, K (e.app dp o.dst st) = some r ∧ QFr P base w0 dp nn θ ops Q slots q i e st := by
 have hda : Yn ops i = o.dst := by unfold Yn; rw [hi]; rfl
 have hba : QB8 ops i = QAJ o := by unfold QB8; simp only [hi]
 have hga : Ey ops i = QjP o := by unfold Ey; simp only [hi]
 have hlk : Qcs ops i = Hg o ++ (match o.guard with | some (j, _) => (QwK ops.toList j).toList | none => []) := by unfold Qcs; simp only [hi]; rfl
 have hkp : ∃ k : Nat → Nat → Bool, (∀ t ∈ Hg o, (st.tm dp t).kept k q = true) ∧ ∀ st' : St, (∀ x y, (!(Nat.beq x dp && Eq y slots)) = true → st'.bx x y = st.bx x y) → ∀ x y, k x y = true → st'.bx x y = st.bx x y := by
  refine ⟨fun x y => !(Nat.beq x dp && Eq y slots), ?_, fun st' h => h⟩
  unfold QGl at hbxk
  simp only [List.all_eq_true] at hbxk
  exact hbxk
 obtain ⟨kk, hkp, hkb⟩ := hkp
 simp only [Qgq] at hs
 obtain ⟨hd, hs2⟩ := Qk hs
 clear hs
 have skip : ∀ (j : Nat) (want : Bool) (t : Nat), o.guard = some (j, want) → QwK ops.toList j = some t → (st.tm dp t = .un ∨ ∃ b : Bool, st.tm dp t = .d .bool b ∧ b ≠ want) → K (st.put dp o.dst .un) = some r →
   ∃ e : Eff, K (e.app dp o.dst st) = some r ∧ QFr P base w0 dp nn θ ops Q slots q i e st := by
  intro j want t hg hdst hv hk
  refine ⟨.val .un, hk, (fun h => by cases h), (fun h => by cases h), fun st' hag hbx _ _ _ M a w h => ?_⟩
  have ht : st'.tm dp t = st.tm dp t := hag t (by rw [hlk, hg]; simp [hdst])
  have hw : Region.wanted o (yielded ops a.tmps) = false := by
   rcases hv with hv | ⟨b, hv, hb⟩
   ·simp [Region.wanted, hg, Qza h hdst (ht.trans hv)]
   ·obtain ⟨hy, _⟩ := QoM h hdst (ht.trans hv)
    simp only [Region.wanted, hg, hy]
    cases b <;> cases want <;> first | rfl | exact absurd rfl hb
  refine ⟨?_, fun _ => ⟨o, undef, hi, .inr ⟨hw, rfl⟩, by rw [hda]; exact h.put (Vb hd) .un rfl⟩⟩
  unfold wpOp
  rw [hi]
  simp only [hw, Bool.false_eq_true, if_false]
  rw [hda]
  exact ⟨M, h.put (Vb hd) .un rfl⟩
 have go : (∀ (st' : St) M a w, (∀ t ∈ Qcs ops i, st'.tm dp t = st.tm dp t) → RelA P base w0 dp nn st' θ M a w → Region.wanted o (yielded ops a.tmps) = true) → Jf (CF m) dp path (1000 * id + i) o st K = some r →
   ∃ e : Eff, K (e.app dp o.dst st) = some r ∧ QFr P base w0 dp nn θ ops Q slots q i e st := by
  intro hw hs
  have hrd : ∀ {st' : St}, (∀ t ∈ Qcs ops i, st'.tm dp t = st.tm dp t) → ∀ t ∈ Hg o, st'.tm dp t = st.tm dp t := fun hag t ht => hag t (by rw [hlk]; exact List.mem_append_left _ ht)
  have byStep : Qbe o = false → ∀ (e : Eff) (st' : St), Jf (CF m) dp path (1000 * id + i) o st' (fun s => if s = e.app dp o.dst st' then some r else none) = some r → ∀ M a w, (∀ t ∈ Qcs ops i, st'.tm dp t = st.tm dp t) → RelA P base w0 dp nn st' θ M a w →
    wpOp P ops Q i (fun a' w' => ∃ M', RelA P base w0 dp nn (e.app dp (Yn ops i) st') θ M' a' w') a w := by
   intro hc e st' hs' M a w hag h
   unfold wpOp
   rw [hi]
   simp only [hw st' M a w hag h, if_true]
   refine .inl (Oper.wp_mono ?_ (QqJ (CF m) (H.P_eq m) h hd hc hs' Q))
   rintro a' w' ⟨st'', M', h', hk'⟩
   have he : st'' = e.app dp o.dst st' := by
    by_cases e2 : st'' = e.app dp o.dst st'
    ·exact e2
    ·have h1 : (if st'' = e.app dp o.dst st' then some r else none) = some r := hk'
     rw [if_neg e2] at h1; cases h1
   rw [he] at h'
   rw [hda]
   exact ⟨M', h'⟩
  cases hl : Yw P o with
  | true =>
   have hl' : Yw (CF m).P o = true := by rw [H.P_eq m]; exact hl
   have hnc : Qbe o = false := by
    unfold Qbe
    split
    ·rename_i f as ats hop
     simp [Yw, hop] at hl
    ·rfl
   obtain ⟨v, hk, hn⟩ := QEu (CF m) (CF m) rfl (path' := path) (here' := 1000 * id + i) hl' hkp hs
   refine ⟨.val v, hk, (fun h => by cases h), (fun h => by cases h), fun st' hag hbx hqq _ _ M a w h => ⟨byStep hnc (.val v) st' (hn st' (hrd hag) (hkb st' hbx) hqq _ r (if_pos rfl)) M a w hag h, fun hp => ?_⟩⟩
   have hp' : Qhe o = true := by rw [hi] at hp; exact hp
   obtain ⟨v', u, q1, q2, q3, q4⟩ := QDp (CF m) (H.P_eq m) h hp' (hn st' (hrd hag) (hkb st' hbx) hqq (fun s => if s = (Eff.val v).app dp o.dst st' then some r else none) r (if_pos rfl))
   have he : st'.put dp o.dst v' = (Eff.val v).app dp o.dst st' := by
    by_cases e2 : st'.put dp o.dst v' = (Eff.val v).app dp o.dst st'
    ·exact e2
    ·have h1 : (if st'.put dp o.dst v' = (Eff.val v).app dp o.dst st' then some r else none) = some r := q1
     rw [if_neg e2] at h1; cases h1
   exact ⟨o, u, hi, .inl ⟨hw st' M a w hag h, q4⟩, by rw [hda, ← he]; exact h.put (Vb hd) q2 q3⟩
  | false =>
   cases hhv : Qgv o with
   | true =>
    have hl' : Yw (CF m).P o = false := by rw [H.P_eq m]; exact hl
    have hnI : Y9 (CF m).I ((1000 * id + i) :: path) = none := by
     unfold Qgw at hpl
     rw [hi] at hpl
     simp only [hl, hhv, Bool.false_or, Bool.true_or, Bool.true_and] at hpl
     simpa using hpl
    have hnc : Qbe o = false := by
     unfold Qbe
     split
     ·rename_i f as ats hop
      simp [Qgv, hop] at hhv
     ·rfl
    obtain ⟨e, hk, hb1, hg1, hn⟩ := QEv (CF m) (CF m) rfl (path' := path) (here' := 1000 * id + i) hhv hkp hqg hnI hnI hs
    refine ⟨e, hk, fun hb => ?_, fun hg => by rw [hga]; exact hg1 hg, fun st' hag hbx _ hb2 hg2 M a w h => ⟨byStep hnc e st' (hn st' (hrd hag) (fun hb t ht => hb2 hb t (by rw [hda]; exact ht)) hg2 _ r (if_pos rfl)) M a w hag h, fun hp => ?_⟩⟩
    case refine_2 =>
     exfalso
     rw [hi] at hp
     have hp' : Qhe o = true := hp
     revert hp' hhv
     unfold Qhe Qgv
     cases o.op <;> simp
    obtain ⟨b1, b2⟩ := hb1 hb
    exact ⟨by rw [hba]; exact b1, fun t ht => b2 t (by rw [hda] at ht; exact ht)⟩
   | false =>
    unfold Qgw at hpl
    rw [hi] at hpl
    simp only [hl, hhv, Bool.false_or, Bool.and_eq_true] at hpl
    obtain ⟨hc, hnone⟩ := hpl
    unfold Qbe at hc
    split at hc
    case h_2 => cases hc
    rename_i f args argTypes hop
    simp only [Jf, hop] at hs
    split at hs
    case h_2 => cases hs
    rename_i g caps hf
    split at hs
    ·rename_i g' hg
     rw [hg] at hnone
     cases hnone
    ·obtain ⟨hlt, hs⟩ := Qk hs
     have hlt : g < JJ := QmU hlt
     obtain ⟨v, k1, hA⟩ := QCu (H.con m) hs hlt
     refine ⟨.val v, k1, (fun h => by cases h), (fun h => by cases h), fun st' hag hbx hqq _ _ M a w h => ?_⟩
     have hrd' := hrd hag
     unfold Hg at hrd'
     simp only [hop] at hrd'
     obtain ⟨r1, r2⟩ := ml hrd'
     refine ⟨?_, fun hp => ?_⟩
     ·unfold wpOp
      rw [hi]
      simp only [hw st' M a w hag h, if_true]
      rw [hda]
      exact .inl (QFt h hd hop (by rw [Zm r1]; exact hf) (by rw [Qy4 r2, hqq.2]; exact hA) Q)
     ·rw [hi] at hp
      simp [Qhe, hop] at hp
 split at hs2
 ·rename_i hg
  exact go (fun _ _ _ _ _ _ => by simp [Region.wanted, hg]) hs2
 ·rename_i j want hg
  split at hs2
  case h_1 => cases hs2
  rename_i t hdst
  split at hs2
  case h_3 => cases hs2
  case h_2 =>
   rename_i hun
   exact skip j want t hg hdst (.inl hun) hs2
  rename_i bv hbv
  have hmem : t ∈ Qcs ops i := by rw [hlk, hg]; simp [hdst]
  have hwant : bv = want → ∀ (st' : St) M a w, (∀ t ∈ Qcs ops i, st'.tm dp t = st.tm dp t) → RelA P base w0 dp nn st' θ M a w → Region.wanted o (yielded ops a.tmps) = true := by
   intro e st' M a w hag h
   obtain ⟨hy, _⟩ := QoM h hdst ((hag t hmem).trans hbv)
   simp [Region.wanted, hg, hy, e]
  have e := QFs hbv
  cases bv with
  | true =>
   simp only [cond_true] at hs2
   rw [e] at hs2
   cases want with
   | true => exact go (hwant rfl) hs2
   | false => exact skip j false t hg hdst (.inr ⟨true, hbv, by decide⟩) hs2
  | false =>
   simp only [cond_false] at hs2
   rw [e] at hs2
   cases want with
   | true => exact skip j true t hg hdst (.inr ⟨false, hbv, by decide⟩) hs2
   | false => exact go (hwant rfl) hs2
theorem QqL {l : Array Bool} : ∀ {S : List Nat} {j : Nat} {d : Bool}, (∀ i ∈ S, i < l.size) → (S.foldl (fun l i => l.setIfInBounds i true) l).getD j d = if j ∈ S then true else l.getD j d := by
 intro S
 induction S generalizing l with
 | nil => intro j d _; simp
 | cons i S ih =>
  intro j d h
  rw [List.foldl_cons, ih (fun k hk => by rw [Array.size_setIfInBounds]; exact h k (by simp [hk])), QsB (h i (by simp))]
  by_cases h1 : j ∈ S
  ·simp [h1]
  ·by_cases h2 : j = i <;> simp [h1, h2]
def Es (ops : Array Oper) (d : Nat) (st : St) (L : List (Nat × Eff)) : St := L.foldl (fun s p => p.2.app d (Yn ops p.1) s) st
def Eff.v : Eff → V
 | .val v | .boxed v _ | .grown _ v => v
theorem QBJ (st : St) (d : Nat) (o : Option Nat) (v : V) (x y : Nat) : (st.put d o v).tm x y = if x = d ∧ o = some y then v else st.tm x y := by
 cases o with
 | none => simp [St.put]
 | some t =>
  simp only [St.put, St.set, upd]
  cases h : Nat.beq y t && Nat.beq x d with
  | true =>
   simp only [Bool.and_eq_true] at h
   rw [if_pos ⟨Nat.eq_of_beq_eq_true h.2, by rw [Nat.eq_of_beq_eq_true h.1]⟩]; rfl
  | false =>
   rw [if_neg]; · rfl
   rintro ⟨rfl, e⟩
   cases e
   rw [Nat.beq_refl, Nat.beq_refl] at h
   cases h
theorem QDq (st : St) (d : Nat) (o : Option Nat) (e : Eff) (x y : Nat) : (e.app d o st).tm x y = if x = d ∧ o = some y then e.v else st.tm x y := by
 cases e with
 | val v => exact QBJ st d o v x y
 | boxed v b =>
  cases o with
  | none => simp [Eff.app]
  | some t => exact QBJ (st.setB d t b) d (some t) v x y
 | grown k v =>
  cases k with
  | none => exact QBJ st.mint d o v x y
  | some k => exact QBJ (st.spend k).mint d o v x y
theorem QDr (st : St) (d : Nat) (o : Option Nat) (e : Eff) (x y : Nat) : (e.app d o st).bx x y = match e with
  | .boxed _ b => if x = d ∧ o = some y then b else st.bx x y
  | _ => st.bx x y := by
 cases e with
 | val v => simp only [Eff.app]; unfold St.put; cases o <;> rfl
 | boxed v b =>
  cases o with
  | none => simp [Eff.app]
  | some t =>
   simp only [Eff.app, St.set, St.setB, QC2]
   cases h : Nat.beq y t && Nat.beq x d with
   | true =>
    simp only [Bool.and_eq_true] at h
    rw [if_pos ⟨Nat.eq_of_beq_eq_true h.2, by rw [Nat.eq_of_beq_eq_true h.1]⟩]; rfl
   | false =>
    rw [if_neg]; · rfl
    rintro ⟨rfl, e⟩
    cases e
    rw [Nat.beq_refl, Nat.beq_refl] at h
    cases h
 | grown k v => simp only [Eff.app]; unfold St.put; cases o <;> cases k <;> rfl
def St.lr (st : St) : (Nat → Bool) × (Nat → Option RBox) × (Nat → Option (List V)) × (Nat → Option RBox) × Nat := (st.lv, st.rw, st.gl, st.dr, st.nd)
theorem QFu (st : St) (d : Nat) (o : Option Nat) (e : Eff) : e.grown? = false → (e.app d o st).nt = st.nt ∧ (e.app d o st).lr = st.lr := by
 intro h
 cases e with
 | val v => simp only [Eff.app]; unfold St.put; cases o <;> exact ⟨rfl, rfl⟩
 | boxed v b => cases o <;> exact ⟨rfl, rfl⟩
 | grown k v => cases h
theorem QF2 (st st' : St) (d : Nat) (o : Option Nat) (e : Eff) (h1 : st.nt = st'.nt) (h2 : st.lr = st'.lr) : (e.app d o st).nt = (e.app d o st').nt ∧ (e.app d o st).lr = (e.app d o st').lr := by
 cases e with
 | val v => simp only [Eff.app]; unfold St.put; cases o <;> exact ⟨h1, h2⟩
 | boxed v b => cases o <;> exact ⟨h1, h2⟩
 | grown k v => simp only [Eff.app]; unfold St.put; cases o <;> cases k <;> (simp only [St.lr, Prod.mk.injEq] at h2 ⊢; obtain ⟨h2, h3, h4⟩ := h2; simp [St.mint, St.spend, St.set, h1, h2, h3, h4])
structure ApartL (ops : Array Oper) (L : List (Nat × Eff)) : Prop where
 dst : ∀ p ∈ L, ∀ q ∈ L, ∀ t, Yn ops p.1 = some t → Yn ops q.1 = some t → p = q
 grow : ∀ p ∈ L, ∀ q ∈ L, p.2.grown? = true → q.2.grown? = true → p = q
 nd : (L.map (·.1)).Nodup
theorem ApartL.tail {ops : Array Oper} {q : Nat × Eff} {L : List (Nat × Eff)} (h : ApartL ops (q :: L)) : ApartL ops L :=
 ⟨fun p hp r hr => h.dst p (by simp [hp]) r (by simp [hr]), fun p hp r hr => h.grow p (by simp [hp]) r (by simp [hr]), (List.nodup_cons.1 (by simpa using h.nd)).2⟩
theorem QeX (ops : Array Oper) (d : Nat) (st : St) (q : Nat × Eff) (L : List (Nat × Eff)) : Es ops d st (q :: L) = Es ops d (q.2.app d (Yn ops q.1) st) L := rfl
theorem QeK (ops : Array Oper) (d : Nat) (y : Nat) : ∀ (L : List (Nat × Eff)) (st : St), ApartL ops L →
  (∀ p ∈ L, Yn ops p.1 = some y → (Es ops d st L).tm d y = p.2.v) ∧ ((∀ p ∈ L, Yn ops p.1 ≠ some y) → (Es ops d st L).tm d y = st.tm d y)
 | [], st, _ => ⟨fun p hp => (by cases hp), fun _ => rfl⟩
 | q :: L, st, ha => by
  have ih := QeK ops d y L (q.2.app d (Yn ops q.1) st) ha.tail
  rw [QeX]
  constructor
  ·intro p hp hd
   by_cases hL : ∃ p' ∈ L, Yn ops p'.1 = some y
   ·obtain ⟨p', hp', hd'⟩ := hL
    have : p = p' := ha.dst p hp p' (by simp [hp']) y hd hd'
    subst this
    exact ih.1 p hp' hd
   ·have hpq : p = q := by
     rcases List.mem_cons.1 hp with h | h
     ·exact h
     ·exact absurd ⟨p, h, hd⟩ hL
    subst hpq
    rw [ih.2 (fun p' hp' hd' => hL ⟨p', hp', hd'⟩), QDq, if_pos ⟨rfl, hd⟩]
  ·intro hn
   rw [ih.2 (fun p hp => hn p (by simp [hp])), QDq, if_neg (fun h => hn q (by simp) h.2)]
theorem EE (ops : Array Oper) (d : Nat) (y : Nat) : ∀ (L : List (Nat × Eff)) (st : St), ApartL ops L →
  (∀ p ∈ L, ∀ v b, Yn ops p.1 = some y → p.2 = .boxed v b → (Es ops d st L).bx d y = b) ∧ ((∀ p ∈ L, p.2.boxed? = true → Yn ops p.1 ≠ some y) → (Es ops d st L).bx d y = st.bx d y)
 | [], st, _ => ⟨fun p hp => (by cases hp), fun _ => rfl⟩
 | q :: L, st, ha => by
  have ih := EE ops d y L (q.2.app d (Yn ops q.1) st) ha.tail
  rw [QeX]
  constructor
  ·intro p hp v b hd he
   by_cases hL : ∃ p' ∈ L, Yn ops p'.1 = some y
   ·obtain ⟨p', hp', hd'⟩ := hL
    have : p = p' := ha.dst p hp p' (by simp [hp']) y hd hd'
    subst this
    exact ih.1 p hp' v b hd he
   ·have hpq : p = q := by
     rcases List.mem_cons.1 hp with h | h
     ·exact h
     ·exact absurd ⟨p, h, hd⟩ hL
    subst hpq
    rw [ih.2 (fun p' hp' _ hd' => hL ⟨p', hp', hd'⟩), QDr, he]
    simp only [hd, and_self, if_true]
  ·intro hn
   rw [ih.2 (fun p hp => hn p (by simp [hp])), QDr]
   cases hq : q.2 with
   | boxed v b =>
    simp only
    rw [if_neg (fun h => hn q (by simp) (by rw [hq]; rfl) h.2)]
   | val v => rfl
   | grown k v => rfl
theorem Qe6 (ops : Array Oper) (d : Nat) (x y : Nat) (hx : x ≠ d) : ∀ (L : List (Nat × Eff)) (st : St), (Es ops d st L).tm x y = st.tm x y ∧ (Es ops d st L).bx x y = st.bx x y
 | [], st => ⟨rfl, rfl⟩
 | q :: L, st => by
  obtain ⟨h1, h2⟩ := Qe6 ops d x y hx L (q.2.app d (Yn ops q.1) st)
  rw [QeX, h1, h2, QDq, QDr, if_neg (fun h => hx h.1)]
  refine ⟨rfl, ?_⟩
  cases q.2 <;> first | rfl | (simp only; rw [if_neg (fun h => hx h.1)])
theorem Wh (ops : Array Oper) (d : Nat) : ∀ (L : List (Nat × Eff)) (st : St), (∀ p ∈ L, p.2.grown? = false) → (Es ops d st L).nt = st.nt ∧ (Es ops d st L).lr = st.lr
 | [], st, _ => ⟨rfl, rfl⟩
 | q :: L, st, h => by
  obtain ⟨h1, h2⟩ := Wh ops d L (q.2.app d (Yn ops q.1) st) (fun p hp => h p (by simp [hp]))
  obtain ⟨h3, h4⟩ := QFu st d (Yn ops q.1) q.2 (h q (by simp))
  rw [QeX]
  exact ⟨h1.trans h3, h2.trans h4⟩
theorem Qe7 (ops : Array Oper) (d : Nat) : ∀ (L : List (Nat × Eff)) (st : St), ApartL ops L → ∀ p ∈ L, p.2.grown? = true → (Es ops d st L).nt = (p.2.app d (Yn ops p.1) st).nt ∧ (Es ops d st L).lr = (p.2.app d (Yn ops p.1) st).lr
 | [], _, _, p, hp, _ => by cases hp
 | q :: L, st, ha, p, hp, hg => by
  rw [QeX]
  by_cases hL : p ∈ L
  ·obtain ⟨h1, h2⟩ := Qe7 ops d L (q.2.app d (Yn ops q.1) st) ha.tail p hL hg
   cases hq : q.2.grown? with
   | true =>
    have : p = q := ha.grow p (by simp [hL]) q (by simp) hg hq
    subst this
    have := ha.nd
    rw [List.map_cons, List.nodup_cons] at this
    exact absurd (List.mem_map.2 ⟨p, hL, rfl⟩) this.1
   | false =>
    obtain ⟨h3, h4⟩ := QFu st d (Yn ops q.1) q.2 hq
    obtain ⟨h5, h6⟩ := QF2 _ _ d (Yn ops p.1) p.2 h3 h4
    exact ⟨h1.trans h5, h2.trans h6⟩
  ·have hpq : p = q := by
    rcases List.mem_cons.1 hp with h | h
    ·exact h
    ·exact absurd h hL
   subst hpq
   exact Wh ops d L _ (fun r hr => by
    cases hr2 : r.2.grown? with
    | false => rfl
    | true => exact absurd (ha.grow p (by simp) r (by simp [hr]) hg hr2 ▸ hr) hL)
theorem QGn (st : St) (d : Nat) (o : Option Nat) (e : Eff) : (e.app d o st).dr = st.dr := by
 cases e with
 | val v => cases o <;> rfl
 | boxed v b => cases o <;> rfl
 | grown k v => cases k <;> cases o <;> rfl
theorem QBK (ops : Array Oper) (d : Nat) : ∀ (L : List (Nat × Eff)) (st : St), (Es ops d st L).dr = st.dr
 | [], _ => rfl
 | q :: L, st => by rw [QeX, QBK ops d L, QGn]
theorem St.ext' {A B : St} (h1 : A.tm = B.tm) (h2 : A.bx = B.bx) (h3 : A.nt = B.nt) (h4 : A.lr = B.lr) : A = B := by
 cases A; cases B; simp_all [St.lr]
theorem QEw {ops : Array Oper} {d : Nat} {L L' : List (Nat × Eff)} (st : St) (ha : ApartL ops L) (ha' : ApartL ops L') (hp : ∀ p, p ∈ L' ↔ p ∈ L) : Es ops d st L' = Es ops d st L := by
 refine St.ext' ?_ ?_ ?_ ?_
 ·funext x y
  by_cases hx : x = d
  ·subst hx
   by_cases h : ∃ p ∈ L, Yn ops p.1 = some y
   ·obtain ⟨p, h1, h2⟩ := h
    rw [(QeK ops x y L' st ha').1 p ((hp p).2 h1) h2, (QeK ops x y L st ha).1 p h1 h2]
   ·rw [(QeK ops x y L' st ha').2 (fun p h1 h2 => h ⟨p, (hp p).1 h1, h2⟩), (QeK ops x y L st ha).2 (fun p h1 h2 => h ⟨p, h1, h2⟩)]
  ·rw [(Qe6 ops d x y hx L' st).1, (Qe6 ops d x y hx L st).1]
 ·funext x y
  by_cases hx : x = d
  ·subst hx
   by_cases h : ∃ p ∈ L, p.2.boxed? = true ∧ Yn ops p.1 = some y
   ·obtain ⟨p, h1, h3, h2⟩ := h
    cases he : p.2 with
    | boxed v b => rw [(EE ops x y L' st ha').1 p ((hp p).2 h1) v b h2 he, (EE ops x y L st ha).1 p h1 v b h2 he]
    | val v => rw [he] at h3; cases h3
    | grown k v => rw [he] at h3; cases h3
   ·rw [(EE ops x y L' st ha').2 (fun p h1 h3 h2 => h ⟨p, (hp p).1 h1, h3, h2⟩), (EE ops x y L st ha).2 (fun p h1 h3 h2 => h ⟨p, h1, h3, h2⟩)]
  ·rw [(Qe6 ops d x y hx L' st).2, (Qe6 ops d x y hx L st).2]
 all_goals
  by_cases h : ∃ p ∈ L, p.2.grown? = true
  ·obtain ⟨p, h1, h2⟩ := h
   first
    | rw [(Qe7 ops d L' st ha' p ((hp p).2 h1) h2).1, (Qe7 ops d L st ha p h1 h2).1]
    | rw [(Qe7 ops d L' st ha' p ((hp p).2 h1) h2).2, (Qe7 ops d L st ha p h1 h2).2]
  ·have hn : ∀ p ∈ L, p.2.grown? = false := fun p hp2 => by
    cases hg : p.2.grown? with
    | false => rfl
    | true => exact absurd ⟨p, hp2, hg⟩ h
   first
    | rw [(Wh ops d L' st (fun p hp2 => hn p ((hp p).1 hp2))).1, (Wh ops d L st hn).1]
    | rw [(Wh ops d L' st (fun p hp2 => hn p ((hp p).1 hp2))).2, (Wh ops d L st hn).2]
theorem QCv (H : CtxOk P w0.gl CF root) {dp nn id : Nat} {path : List Nat} {ops : Array Oper} {slots : List Nat} {q : Bool} {K : Jz R} {r : R} {Q : Exit → Act → World → Prop} (m : Nat) :
  ∀ (S : List Nat) (st : St), (∀ i ∈ S, Qgw P (CF m).I path id ops i = true ∧ (Ey ops i = true → q = false)) → QFT (CF m) dp nn path id ops slots q S K st = some r →
   ∃ L : List (Nat × Eff), L.map (·.1) = S ∧ K (Es ops dp st L) = some r ∧ ∀ L1 p L2, L = L1 ++ p :: L2 → QFr P base w0 dp nn θ ops Q slots q p.1 p.2 (Es ops dp st L1)
 | [], st, _, hs => ⟨[], rfl, hs, fun L1 p L2 h => by cases L1 <;> cases h⟩
 | i :: S, st, hpl, hs => by
  simp only [QFT] at hs
  split at hs
  case h_2 => cases hs
  rename_i o hi
  obtain ⟨hbx, hs⟩ := Qk hs
  obtain ⟨v, hk, hr⟩ := QGm (θ := θ) (base := base) (w0 := w0) (Q := Q) H m hi (hpl i (by simp)).1 hbx (fun hg => (hpl i (by simp)).2 (by unfold Ey; simp only [hi]; exact hg)) hs
  obtain ⟨L, h1, h2, h3⟩ := QCv H m S _ (fun j hj => hpl j (by simp [hj])) hk
  have hda : Yn ops i = o.dst := by unfold Yn; rw [hi]; rfl
  have e : ∀ L1, Es ops dp st ((i, v) :: L1) = Es ops dp (v.app dp o.dst st) L1 := fun L1 => by unfold Es; rw [List.foldl_cons, hda]
  refine ⟨(i, v) :: L, by simp [h1], by rw [e]; exact h2, ?_⟩
  intro L1 p L2 h
  cases L1 with
  | nil => injection h with h4 h5; subst h4; exact hr
  | cons q L1 =>
   injection h with h4 h5
   subst h4
   rw [e]
   exact h3 L1 p L2 h5
theorem QqM {ops : Array Oper} {listed : Array Bool} : ∀ (S1 : List Nat) (Ju : List Nat) (i : Nat) (S2 : List Nat), QjQ ops listed Ju (S1 ++ i :: S2) = true →
  i ∉ Ju ∧ i ∉ S1 ∧ ∀ p ∈ YQ ops i, listed.getD p false = true ∨ p ∈ Ju ∨ p ∈ S1
 | [], Ju, i, S2, h => by
  simp only [List.nil_append, QjQ, Bool.and_eq_true, Bool.not_eq_true', List.all_eq_true, Bool.or_eq_true] at h
  refine ⟨Qj1 h.1.1, by simp, fun p hp => ?_⟩
  rcases h.1.2 p hp with h1 | h1
  ·exact .inl h1
  ·exact .inr (.inl (VB.1 h1))
 | j :: S1, Ju, i, S2, h => by
  simp only [List.cons_append, QjQ, Bool.and_eq_true] at h
  obtain ⟨h1, h2, h3⟩ := QqM S1 (j :: Ju) i S2 h.2
  refine ⟨fun hm => h1 (by simp [hm]), ?_, fun p hp => ?_⟩
  ·intro hm
   rcases List.mem_cons.1 hm with rfl | hm
   ·exact h1 (by simp)
   ·exact h2 hm
  ·rcases h3 p hp with h4 | h4 | h4
   ·exact .inl h4
   ·rcases List.mem_cons.1 h4 with rfl | h4
    ·exact .inr (.inr (by simp))
    ·exact .inr (.inl h4)
   ·exact .inr (.inr (by simp [h4]))
theorem QA2 {ops : Array Oper} {k : Nat} {D : Nat → Prop} (hk : ∀ p ∈ YQ ops k, D p) : ∀ (S : List Nat), Qyp ops k S = true → (∀ i ∈ S, D i → ∀ p ∈ YQ ops i, D p) → ∀ i ∈ S, D i
 | [], _, _, i, hi => by cases hi
 | j :: S, h, hc, i, hi => by
  simp only [Qyp, Bool.and_eq_true, Bool.or_eq_true, List.any_eq_true] at h
  have ih := QA2 hk S h.2 (fun i hi => hc i (by simp [hi]))
  rcases List.mem_cons.1 hi with rfl | hi
  ·rcases h.1 with h1 | ⟨q, hq, h1⟩
   ·exact hk _ (VB.1 h1)
   ·exact hc q (by simp [hq]) (ih q hq) _ (VB.1 h1)
  ·exact ih i hi
theorem Qzb : ∀ {S D : List Nat}, S.Nodup → (∀ x ∈ S, x ∈ D) → S.length ≤ D.length
 | [], D, _, _ => Nat.zero_le _
 | x :: S, D, hn, hs => by
  rw [List.nodup_cons] at hn
  have h1 := Qzb (D := D.erase x) hn.2 (fun y hy => (List.mem_erase_of_ne (fun e => by subst e; exact hn.1 hy)).2 (hs y (by simp [hy])))
  have h2 := List.length_erase_of_mem (hs x (by simp))
  have h3 : 0 < D.length := List.length_pos_of_mem (hs x (by simp))
  rw [List.length_cons]; omega
theorem QDs {S D : List Nat} (hd : D.Nodup) (hs : ∀ x ∈ D, x ∈ S) (hl : S.length ≤ D.length) : ∀ x ∈ S, x ∈ D := by
 intro x hx
 by_cases h : x ∈ D
 ·exact h
 ·have := Qzb (S := x :: D) (D := S) (List.nodup_cons.2 ⟨h, hd⟩) (fun y hy => by rcases List.mem_cons.1 hy with rfl | hy; exact hx; exact hs y hy)
  rw [List.length_cons] at this; omega
theorem QD8 : ∀ {L : List (Nat × Eff)}, (L.map (·.1)).Nodup → ∀ p ∈ L, ∀ q ∈ L, p.1 = q.1 → p = q
 | [], _, p, hp, _, _, _ => by cases hp
 | x :: L, hn, p, hp, q, hq, e => by
  rw [List.map_cons, List.nodup_cons] at hn
  rcases List.mem_cons.1 hp with hp | hp <;> rcases List.mem_cons.1 hq with hq | hq
  ·rw [hp, hq]
  ·exact absurd (List.mem_map.2 ⟨q, hq, by rw [← e, hp]⟩) hn.1
  ·exact absurd (List.mem_map.2 ⟨p, hp, by rw [e, hq]⟩) hn.1
  ·exact QD8 hn.2 p hp q hq e
theorem Qzc {ops : Array Oper} {listed : Array Bool} : ∀ {S Ju : List Nat}, QjQ ops listed Ju S = true → S.Nodup ∧ ∀ i ∈ S, i ∉ Ju
 | [], _, _ => ⟨List.nodup_nil, fun i hi => by cases hi⟩
 | i :: S, Ju, h => by
  simp only [QjQ, Bool.and_eq_true, Bool.not_eq_true'] at h
  obtain ⟨h1, h2⟩ := Qzc h.2
  refine ⟨List.nodup_cons.2 ⟨fun hm => h2 i hm (by simp), h1⟩, fun j hj => ?_⟩
  rcases List.mem_cons.1 hj with rfl | hj
  ·exact Qj1 h.1.1
  ·exact fun hb => h2 j hj (by simp [hb])
open Classical in
theorem QA3 {α : Type} {D : α → Prop} : ∀ {L : List α}, (∃ p ∈ L, ¬ D p) → ∃ L1 p L2, L = L1 ++ p :: L2 ∧ (∀ q ∈ L1, D q) ∧ ¬ D p
 | [], ⟨p, hp, _⟩ => by cases hp
 | x :: L, ⟨p, hp, hn⟩ => by
  by_cases hx : D x
  ·have : ∃ p ∈ L, ¬ D p := by
    rcases List.mem_cons.1 hp with rfl | hp
    ·exact absurd hx hn
    ·exact ⟨p, hp, hn⟩
   obtain ⟨L1, q, L2, h1, h2, h3⟩ := QA3 this
   exact ⟨x :: L1, q, L2, by rw [h1]; rfl, fun y hy => by rcases List.mem_cons.1 hy with rfl | hy; exact hx; exact h2 y hy, h3⟩
  ·exact ⟨[], x, L, rfl, (fun q hq => by cases hq), hx⟩
theorem QF3 {A B : Array Bool} (hs : A.size = B.size) (h : ∀ j, A.getD j false = B.getD j false) : A = B := by
 apply Array.ext hs
 intro i h1 h2
 have := h i
 rw [Array.getD_eq_getD_getElem?, Array.getD_eq_getD_getElem?, Array.getElem?_eq_getElem h1, Array.getElem?_eq_getElem h2] at this
 simpa using this
theorem Qe8 (l : Array Bool) : ∀ S : List Nat, (S.foldl (fun l i => l.setIfInBounds i true) l).size = l.size := by
 intro S
 induction S generalizing l with
 | nil => rfl
 | cons i S ih => rw [List.foldl_cons, ih, Array.size_setIfInBounds]
theorem QEx {l : Array Bool} {i : Nat} (hi : i < l.size) (d d' : Bool) : l.getD i d = l.getD i d' := by
 rw [Array.getD_eq_getD_getElem?, Array.getD_eq_getD_getElem?, Array.getElem?_eq_getElem hi]; rfl
theorem QCw {ops : Array Oper} {listed : Array Bool} {S : List Nat} {D : Nat → Prop} (hl : ∀ p, listed.getD p false = true → D p) (hc : ∀ i ∈ S, D i → ∀ p ∈ YQ ops i, D p) (ht : ∀ i ∈ S, Qqv ops listed i = true → (∀ p ∈ YQ ops i, D p) → D i) :
  ∀ (n : Nat) (acc : List Nat), (∀ i ∈ acc, i ∈ S ∧ D i) → ∀ i ∈ QE0 ops listed S n acc, D i
 | 0, acc, ha, i, hi => (ha i hi).2
 | n + 1, acc, ha, i, hi => by
  refine QCw hl hc ht n _ (fun j hj => ?_) i hi
  obtain ⟨hjS, hj⟩ := List.mem_filter.1 hj
  simp only [Bool.or_eq_true, Bool.and_eq_true, List.any_eq_true, List.all_eq_true] at hj
  refine ⟨hjS, ?_⟩
  rcases hj with (hj | ⟨k, hk, hj⟩) | ⟨hj1, hj2⟩
  ·exact (ha j (VB.1 hj)).2
  ·exact hc k (ha k hk).1 (ha k hk).2 j (VB.1 hj)
  ·refine ht j hjS hj1 fun p hp => ?_
   rcases hj2 p hp with h | h
   ·exact hl p h
   ·exact (ha p (VB.1 h)).2
theorem QFv {ops : Array Oper} {l l' : Array Bool} {i : Nat} (h : Qqv ops l i = true) (hm : ∀ j, l.getD j true = true → l'.getD j true = true) (hr : ∀ p ∈ YQ ops i, l'.getD p false = true) : Region.free .any ops l' i = true := by
 unfold Qqv at h
 rw [Bool.and_eq_true] at h
 have h := h.2
 unfold Region.free
 split at h
 case h_2 => cases h
 rename_i oi hoi
 rw [hoi]
 simp only [List.all_eq_true, List.mem_range, Bool.or_eq_true] at h ⊢
 intro j hj
 rcases h j hj with ((h1 | h1) | h1) | h1
 ·exact .inl (.inl (by rw [Nat.eq_of_beq_eq_true h1]; exact beq_self_eq_true i))
 ·exact .inl (.inr (hm j h1))
 ·refine .inl (.inr ?_)
  have hp : l'.getD j false = true := hr j (by unfold YQ; rw [hoi]; exact VB.1 h1)
  rw [Array.getD_eq_getD_getElem?] at hp ⊢
  cases he : l'[j]? with
  | none => rfl
  | some b => rw [he] at hp; simpa using hp
 ·right
  have hoj := Array.getElem?_eq_getElem hj
  rw [hoj] at h1 ⊢
  simp only [Bool.or_eq_true] at h1 ⊢
  rcases h1 with h1 | h1
  ·left
   have hm := VB.1 h1
   unfold QoK at hm
   obtain ⟨e, he, hei⟩ := List.mem_map.1 hm
   obtain ⟨he1, he2⟩ := List.mem_filter.1 he
   rw [Array.any_eq_true']
   refine ⟨e, by simpa using he1, ?_⟩
   rw [he2, hei]; simp
  ·exact .inr h1
theorem QBL {dp nn id : Nat} {path : List Nat} {I : List (List Nat × Nat)} {ops : Array Oper} {listed : Array Bool} {S : List Nat} {Q : Exit → Act → World → Prop} (hok : QhX P I path id ops listed S = true) (hsel : Region.noSelect ops = true) (hQp : ∀ c a w, ¬ Q (.panic c) a w) {L : List (Nat × Eff)} (hL : L.map (·.1) = S) {st : St}
  (hrec : ∀ L1 p L2, L = L1 ++ p :: L2 → QFr P base w0 dp nn θ ops Q (Qsp ops S) (!(S.any (Ey ops))) p.1 p.2 (Es ops dp st L1))
  (hfin : ∀ M a w f, RelA P base w0 dp nn (Es ops dp st L) θ M a w → unl ops (S.foldl (fun l i => l.setIfInBounds i true) listed) ≤ f → wpAny P .any ops Q f (S.foldl (fun l i => l.setIfInBounds i true) listed) a w) :
  ∀ (c : Nat) (done : List (Nat × Eff)), done.length + c = L.length → (done.map (·.1)).Nodup → (∀ p ∈ done, p ∈ L) → (∀ p ∈ done, ∀ k ∈ YQ ops p.1, ((done.map (·.1)).foldl (fun l i => l.setIfInBounds i true) listed).getD k false = true) →
   ∀ M a w f, RelA P base w0 dp nn (Es ops dp st done) θ M a w → unl ops ((done.map (·.1)).foldl (fun l i => l.setIfInBounds i true) listed) ≤ f →
    wpAny P .any ops Q f ((done.map (·.1)).foldl (fun l i => l.setIfInBounds i true) listed) a w := by
 unfold QhX at hok
 simp only [Bool.and_eq_true, List.all_eq_true, Bool.or_eq_true, Bool.not_eq_true'] at hok
 obtain ⟨⟨⟨⟨_, hsize⟩, hS⟩, htopo⟩, hwait⟩ := hok
 have hsize := Nat.eq_of_beq_eq_true hsize
 obtain ⟨hSn, _⟩ := Qzc htopo
 have hLn : (L.map (·.1)).Nodup := by rw [hL]; exact hSn
 have inj := QD8 hLn
 have memS : ∀ p ∈ L, p.1 ∈ S := fun p hp => by rw [← hL]; exact List.mem_map.2 ⟨p, hp, rfl⟩
 have ofS : ∀ i ∈ S, ∃ p ∈ L, p.1 = i := fun i hi => by rw [← hL] at hi; obtain ⟨p, h1, h2⟩ := List.mem_map.1 hi; exact ⟨p, h1, h2⟩
 have Slt : ∀ i ∈ S, i < ops.size ∧ i < listed.size := by
  intro i hi
  have h1 := (hS i hi).1.1.1
  unfold Qgw at h1
  split at h1
  ·rename_i o ho
   have := (Array.getElem?_eq_some_iff.1 ho).1
   omega
  ·cases h1
 have Sun : ∀ i ∈ S, listed.getD i false = false := fun i hi => by rw [QEx (Slt i hi).2 false true]; exact (hS i hi).1.1.2
 have recL : ∀ p ∈ L, (p.2.boxed? = true → QB8 ops p.1 = true) ∧ (p.2.grown? = true → Ey ops p.1 = true) := by
  intro p hp
  obtain ⟨A, B, hAB⟩ := List.append_of_mem hp
  obtain ⟨r1, r2, _⟩ := hrec A p B hAB
  exact ⟨fun h => (r1 h).1, r2⟩
 have hap : ApartL ops L := by
  refine ⟨?_, ?_, hLn⟩
  ·intro p hp q hq t h1 h2
   by_cases e : p.1 = q.1
   ·exact inj p hp q hq e
   ·exfalso
    rcases (hS p.1 (memS p hp)).2 q.1 (memS q hq) with h3 | h3
    ·exact e (Nat.eq_of_beq_eq_true h3)
    ·unfold QBj at h3
     rw [h2, h1] at h3
     simp [Nat.beq_refl] at h3
  ·intro p hp q hq h1 h2
   by_cases e : p.1 = q.1
   ·exact inj p hp q hq e
   ·exfalso
    rcases (hS p.1 (memS p hp)).2 q.1 (memS q hq) with h3 | h3
    ·exact e (Nat.eq_of_beq_eq_true h3)
    ·unfold QBj at h3
     rw [(recL p hp).2 h1, (recL q hq).2 h2] at h3
     simp at h3
 have inSlots : ∀ p ∈ L, p.2.boxed? = true → ∀ t, Yn ops p.1 = some t → t ∈ Qsp ops S := by
  intro p hp hb t ht
  unfold Qsp
  exact List.mem_filterMap.2 ⟨p.1, List.mem_filter.2 ⟨memS p hp, (recL p hp).1 hb⟩, ht⟩
 intro c
 induction c with
 | zero =>
  intro done hlen hnd hsub _ M a w f h hf
  have hDS : ∀ x ∈ done.map (·.1), x ∈ S := fun x hx => by obtain ⟨p, hp, rfl⟩ := List.mem_map.1 hx; exact memS p (hsub p hp)
  have hfull : ∀ x ∈ S, x ∈ done.map (·.1) := QDs hnd hDS (by rw [← hL, List.length_map, List.length_map]; omega)
  have hmem : ∀ p, p ∈ done ↔ p ∈ L := by
   intro p
   refine ⟨hsub p, fun hp => ?_⟩
   obtain ⟨q, hq, e⟩ := List.mem_map.1 (hfull p.1 (memS p hp))
   rw [inj q (hsub q hq) p hp e] at hq
   exact hq
  have he : (done.map (·.1)).foldl (fun l i => l.setIfInBounds i true) listed = S.foldl (fun l i => l.setIfInBounds i true) listed := by
   refine QF3 (by rw [Qe8, Qe8]) fun j => ?_
   rw [QqL (fun i hi => (Slt i (hDS i hi)).2), QqL (fun i hi => (Slt i hi).2)]
   by_cases hj : j ∈ S
   ·rw [if_pos (hfull j hj), if_pos hj]
   ·rw [if_neg (fun hh => hj (hDS j hh)), if_neg hj]
  rw [he] at hf ⊢
  rw [QEw st hap ⟨fun p hp r hr => hap.dst p (hsub p hp) r (hsub r hr), fun p hp r hr => hap.grow p (hsub p hp) r (hsub r hr), hnd⟩ hmem] at h
  exact hfin M a w f h hf
 | succ c ih =>
  intro done hlen hnd hsub hcl M a w f h hf
  have hDS : ∀ x ∈ done.map (·.1), x ∈ S := fun x hx => by obtain ⟨p, hp, rfl⟩ := List.mem_map.1 hx; exact memS p (hsub p hp)
  have hDlt : ∀ i ∈ done.map (·.1), i < listed.size := fun i hi => (Slt i (hDS i hi)).2
  have hget : ∀ j d, ((done.map (·.1)).foldl (fun l i => l.setIfInBounds i true) listed).getD j d = if j ∈ done.map (·.1) then true else listed.getD j d := fun j d => QqL hDlt
  have hnot : ¬ ∀ i ∈ S, i ∈ done.map (·.1) := by
   intro hall
   have := Qzb hSn hall
   rw [← hL, List.length_map, List.length_map] at this
   omega
  have inS : ∀ i ∈ S, ((done.map (·.1)).foldl (fun l i => l.setIfInBounds i true) listed).getD i false = true → i ∈ done.map (·.1) := by
   intro i hi hg
   rw [hget] at hg
   by_cases hm : i ∈ done.map (·.1)
   ·exact hm
   ·rw [if_neg hm, Sun i hi] at hg; cases hg
  have inD : ∀ p ∈ L, p.1 ∈ done.map (·.1) → p ∈ done := by
   intro p hp hm
   obtain ⟨q, hq, e⟩ := List.mem_map.1 hm
   rw [inj q (hsub q hq) p hp e] at hq
   exact hq
  obtain ⟨L1, p0, L2, hsplit, hL1, hp0⟩ := QA3 (D := fun p => p ∈ done) (L := L) (by
   by_cases hall : ∃ p ∈ L, p ∉ done
   ·exact hall
   ·refine absurd (fun i hi => ?_) hnot
    obtain ⟨p, hp, rfl⟩ := ofS i hi
    by_cases hd : p ∈ done
    ·exact List.mem_map.2 ⟨p, hd, rfl⟩
    ·exact absurd ⟨p, hp, hd⟩ hall)
  have hp0L : p0 ∈ L := by rw [hsplit]; simp
  have hready0 : p0.1 ∈ Region.ready .any ops ((done.map (·.1)).foldl (fun l i => l.setIfInBounds i true) listed) := by
   refine Qbk.2 ⟨(Slt _ (memS p0 hp0L)).1, ?_, fun k hk => ?_⟩
   ·rw [hget, if_neg (fun hm => hp0 (inD p0 hp0L hm))]
    exact (hS _ (memS p0 hp0L)).1.1.2
   ·have ht : QjQ ops listed [] (L1.map (·.1) ++ p0.1 :: L2.map (·.1)) = true := by
     rw [← List.map_cons, ← List.map_append, ← hsplit, hL]; exact htopo
    obtain ⟨_, _, h3⟩ := QqM _ _ _ _ ht
    rw [hget]
    rcases h3 k hk with h4 | h4 | h4
    ·by_cases hm : k ∈ done.map (·.1)
     ·rw [if_pos hm]
     ·rw [if_neg hm]; exact h4
    ·cases h4
    ·obtain ⟨q, hq, rfl⟩ := List.mem_map.1 h4
     rw [if_pos (List.mem_map.2 ⟨q, hL1 q hq, rfl⟩)]
  have hcount : ∀ j ∈ Region.ready .any ops ((done.map (·.1)).foldl (fun l i => l.setIfInBounds i true) listed), unl ops (((done.map (·.1)).foldl (fun l i => l.setIfInBounds i true) listed).setIfInBounds j true) + 1 ≤ unl ops ((done.map (·.1)).foldl (fun l i => l.setIfInBounds i true) listed) := by
   intro j hj
   obtain ⟨h1, h2, _⟩ := Qbk.1 hj
   exact QD7 h1 (by rw [Qe8]; exact hsize) h2
  obtain ⟨f', rfl⟩ : ∃ f', f = f' + 1 := ⟨f - 1, by have := hcount _ hready0; omega⟩
  have each : ∀ q ∈ L, q.1 ∈ Region.ready .any ops ((done.map (·.1)).foldl (fun l i => l.setIfInBounds i true) listed) →
    (wpOp P ops Q q.1 (fun a' w' => ∃ M', RelA P base w0 dp nn (q.2.app dp (Yn ops q.1) (Es ops dp st done)) θ M' a' w') a w ∧
     ((ops[q.1]?.map Qhe).getD false = true → ∃ oi u, ops[q.1]? = some oi ∧ Yields P ops oi u a ∧ RelA P base w0 dp nn (q.2.app dp (Yn ops q.1) (Es ops dp st done)) θ M (a.put oi.dst u) w)) ∧
    (∀ M' a' w', RelA P base w0 dp nn (q.2.app dp (Yn ops q.1) (Es ops dp st done)) θ M' a' w' → wpAny P .any ops Q f' (((done.map (·.1)).foldl (fun l i => l.setIfInBounds i true) listed).setIfInBounds q.1 true) a' w') := by
   intro q hqL hj
   obtain ⟨hj1, hj2, hj3⟩ := Qbk.1 hj
   have hjD : q.1 ∉ done.map (·.1) := fun hm => by rw [hget, if_pos hm] at hj2; cases hj2
   have hjS : q.1 ∈ S := memS q hqL
   obtain ⟨A, B, hAB⟩ := List.append_of_mem hqL
   have hmemA : ∀ p ∈ A, p ∈ L := fun p hp => by rw [hAB]; simp [hp]
   have htA : QjQ ops listed [] (A.map (·.1) ++ q.1 :: B.map (·.1)) = true := by
    rw [← List.map_cons, ← List.map_append, ← hAB, hL]; exact htopo
   obtain ⟨_, _, hpA⟩ := QqM _ _ _ _ htA
   have hAn : (A.map (·.1)).Nodup := by
    have := hLn
    rw [hAB, List.map_append] at this
    exact (List.nodup_append.1 this).1
   have hqA : q ∉ A := by
    intro hm
    have := hLn
    rw [hAB, List.map_append] at this
    exact (List.nodup_append.1 this).2.2 q.1 (List.mem_map.2 ⟨q, hm, rfl⟩) q.1 (by simp) rfl
   have hqD : q ∉ done := fun hm => hjD (List.mem_map.2 ⟨q, hm, rfl⟩)
   have hapD : ApartL ops done := ⟨fun p hp r hr => hap.dst p (hsub p hp) r (hsub r hr), fun p hp r hr => hap.grow p (hsub p hp) r (hsub r hr), hnd⟩
   have hapA : ApartL ops A := ⟨fun p hp r hr => hap.dst p (hmemA p hp) r (hmemA r hr), fun p hp r hr => hap.grow p (hmemA p hp) r (hmemA r hr), hAn⟩
   obtain ⟨hq1, hq2, hq3⟩ := hrec A q B hAB
   have hrun := hq3 (Es ops dp st done) (fun t ht => by
    by_cases hex : ∃ p ∈ L, Yn ops p.1 = some t
    ·obtain ⟨p, hp, hd⟩ := hex
     have hne : p.1 ≠ q.1 := by
      intro e
      have hself := (hS q.1 hjS).1.2
      unfold QEZ at hself
      rw [← e, hd] at hself
      simp only [Bool.not_eq_true'] at hself
      rw [e] at hself
      exact Qj1 hself ht
     have hpre : p.1 ∈ YQ ops q.1 := by
      rcases (hS q.1 hjS).2 p.1 (memS p hp) with h3 | h3
      ·exact absurd (Nat.eq_of_beq_eq_true h3).symm hne
      ·unfold QBj at h3
       rw [hd, Bool.and_eq_true] at h3
       have h5 := h3.2
       rw [Bool.and_eq_true] at h5
       have h6 := h5.2
       rw [Bool.or_eq_true, Bool.not_eq_true'] at h6
       rcases h6 with h4 | h4
       ·exact absurd ht (Qj1 h4)
       ·exact VB.1 h4
     have hpd : p ∈ done := inD p hp (inS p.1 (memS p hp) (hj3 p.1 hpre))
     have hpA2 : p ∈ A := by
      rcases hpA p.1 hpre with h4 | h4 | h4
      ·rw [Sun p.1 (memS p hp)] at h4; cases h4
      ·cases h4
      ·obtain ⟨p', hp', e⟩ := List.mem_map.1 h4
       rw [inj p' (hmemA p' hp') p hp e] at hp'
       exact hp'
     rw [(QeK ops dp t done st hapD).1 p hpd hd, (QeK ops dp t A st hapA).1 p hpA2 hd]
    ·rw [(QeK ops dp t done st hapD).2 (fun p hp hd => hex ⟨p, hsub p hp, hd⟩), (QeK ops dp t A st hapA).2 (fun p hp hd => hex ⟨p, hmemA p hp, hd⟩)]) (fun x y hxy => by
     by_cases hx : x = dp
     ·subst hx
      have hy : y ∉ Qsp ops S := by
       intro hm
       rw [Nat.beq_refl, VB.2 hm] at hxy
       cases hxy
      rw [(EE ops x y done st hapD).2 (fun p hp hb hd => hy (inSlots p (hsub p hp) hb y hd)), (EE ops x y A st hapA).2 (fun p hp hb hd => hy (inSlots p (hmemA p hp) hb y hd))]
     ·rw [(Qe6 ops dp x y hx done st).2, (Qe6 ops dp x y hx A st).2]) ⟨(fun hq => by
     have ng : ∀ p ∈ L, p.2.grown? = false := fun p hp => by
      cases h2 : p.2.grown? with
      | false => rfl
      | true =>
       have h3 := (recL p hp).2 h2
       rw [Bool.not_eq_true', List.any_eq_false] at hq
       exact absurd h3 (hq p.1 (memS p hp))
     exact congrArg (fun x => x.2.1) (((Wh ops dp done st (fun p hp => ng p (hsub p hp))).2).trans (Wh ops dp A st (fun p hp => ng p (hmemA p hp))).2.symm)), by rw [QBK, QBK]⟩ (fun hb t ht => by
     have h0 := (hq1 hb).2 t ht
     rw [(EE ops dp t A st hapA).2 (fun p hp _ hd => hqA (hap.dst p (hmemA p hp) q hqL t hd ht ▸ hp))] at h0
     rw [(EE ops dp t done st hapD).2 (fun p hp _ hd => hqD (hap.dst p (hsub p hp) q hqL t hd ht ▸ hp))]
     exact h0) (fun hg => by
     have n1 : ∀ p ∈ done, p.2.grown? = false := fun p hp => by
      cases h2 : p.2.grown? with
      | false => rfl
      | true => exact absurd (hap.grow p (hsub p hp) q hqL h2 hg ▸ hp) hqD
     have n2 : ∀ p ∈ A, p.2.grown? = false := fun p hp => by
      cases h2 : p.2.grown? with
      | false => rfl
      | true => exact absurd (hap.grow p (hmemA p hp) q hqL h2 hg ▸ hp) hqA
     exact ⟨by rw [(Wh ops dp done st n1).1, (Wh ops dp A st n2).1], congrArg Prod.fst (((Wh ops dp done st n1).2).trans (Wh ops dp A st n2).2.symm)⟩) M a w h
   refine ⟨hrun, fun M' a' w' h' => ?_⟩
   have e1 : (done ++ [q]).map (·.1) = done.map (·.1) ++ [q.1] := by simp
   have e2 : ((done ++ [q]).map (·.1)).foldl (fun l i => l.setIfInBounds i true) listed = ((done.map (·.1)).foldl (fun l i => l.setIfInBounds i true) listed).setIfInBounds q.1 true := by rw [e1, List.foldl_append]; rfl
   have e3 : Es ops dp st (done ++ [q]) = q.2.app dp (Yn ops q.1) (Es ops dp st done) := by unfold Es; rw [List.foldl_append]; rfl
   have hnext := ih (done ++ [q]) (by rw [List.length_append, List.length_singleton]; omega) (by
     rw [e1]
     exact List.nodup_append.2 ⟨hnd, List.nodup_cons.2 ⟨by simp, List.nodup_nil⟩, fun x hx y hy => by rw [List.mem_singleton.1 hy]; exact fun e => hjD (e ▸ hx)⟩)
    (fun p hp => by
     rcases List.mem_append.1 hp with hp | hp
     ·exact hsub p hp
     ·rw [List.mem_singleton.1 hp]; exact hqL)
    (fun p hp k hk => by
     rw [e2, QsB (by rw [Qe8]; exact (Slt q.1 hjS).2)]
     by_cases hkq : k = q.1
     ·rw [if_pos hkq]
     ·rw [if_neg hkq]
      rcases List.mem_append.1 hp with hp | hp
      ·exact hcl p hp k hk
      ·rw [List.mem_singleton.1 hp] at hk; exact hj3 k hk)
    M' a' w' f' (by rw [e3]; exact h') (by rw [e2]; have := hcount _ hj; omega)
   rw [e2] at hnext
   exact hnext
  by_cases hpend : ∃ p ∈ L, Qqv ops listed p.1 = true ∧ p.1 ∈ Region.ready .any ops ((done.map (·.1)).foldl (fun l i => l.setIfInBounds i true) listed)
  ·obtain ⟨p, hpL, htk, hpr⟩ := hpend
   obtain ⟨⟨_, hy⟩, hnx⟩ := each p hpL hpr
   have htk1 := htk
   unfold Qqv at htk1
   rw [Bool.and_eq_true] at htk1
   have htk1 := htk1.1
   obtain ⟨oi, u, ho, hyi, hrel⟩ := hy (by
    cases ho : ops[p.1]? with
    | none => rw [ho] at htk1; cases htk1
    | some o => rw [ho] at htk1; exact htk1)
   refine wpAny_take ho hsel (QFv htk (fun j hj => by
    rw [hget]
    by_cases hm : j ∈ done.map (·.1)
    ·rw [if_pos hm]
    ·rw [if_neg hm]; exact hj) (Qbk.1 hpr).2.2) (by simpa using hpr) (fun c a w hq => absurd hq (hQp c _ w)) hyi (hnx M (a.put oi.dst u) w hrel)
  refine ⟨(fun e => by rw [e] at hready0; cases hready0), fun j hj => ?_⟩
  obtain ⟨hj1, hj2, hj3⟩ := Qbk.1 hj
  have hjD : j ∉ done.map (·.1) := fun hm => by rw [hget, if_pos hm] at hj2; cases hj2
  have hjl : listed.getD j true = false := by rw [hget, if_neg hjD] at hj2; exact hj2
  have hjS : j ∈ S := by
   have hw := hwait j (QFq.2 ⟨hj1, hjl⟩)
   have viaClos : QC6 ops listed S j = true → False := by
    intro hw
    unfold QC6 at hw
    simp only [List.all_eq_true] at hw
    refine hnot fun i hi => inS i hi ?_
    refine QCw (D := fun i => ((done.map (·.1)).foldl (fun l i => l.setIfInBounds i true) listed).getD i false = true) (S := S) ?_ ?_ ?_ S.length _ ?_ i (VB.1 (hw i hi))
    ·intro p hp
     rw [hget]
     by_cases hm : p ∈ done.map (·.1)
     ·rw [if_pos hm]
     ·rw [if_neg hm]; exact hp
    ·intro i hi hDi
     obtain ⟨p, hp, rfl⟩ := List.mem_map.1 (inS i hi hDi)
     exact hcl p hp
    ·intro i hi htk hpre
     by_cases hm : i ∈ done.map (·.1)
     ·rw [hget, if_pos hm]
     ·exfalso
      obtain ⟨p, hp, rfl⟩ := ofS i hi
      refine hpend ⟨p, hp, htk, Qbk.2 ⟨(Slt _ hi).1, ?_, hpre⟩⟩
      rw [hget, if_neg hm]
      exact (hS _ hi).1.1.2
    ·intro i hi
     obtain ⟨h1, h2⟩ := List.mem_filter.1 hi
     exact ⟨h1, hj3 i (VB.1 h2)⟩
   rcases hw with ((hw | hw) | hw) | hw
   ·exact VB.1 hw
   ·exfalso
    rw [List.all_eq_false] at hw
    obtain ⟨k, hk, hk2⟩ := hw
    have := hj3 k hk
    rw [hget] at this
    apply hk2
    by_cases hm : k ∈ done.map (·.1)
    ·rw [Bool.or_eq_true]; exact .inr (VB.2 (hDS k hm))
    ·rw [if_neg hm] at this
     rw [Bool.or_eq_true]; exact .inl this
   ·exfalso
    refine hnot fun i hi => inS i hi ?_
    refine QA2 (D := fun i => ((done.map (·.1)).foldl (fun l i => l.setIfInBounds i true) listed).getD i false = true) hj3 S hw ?_ i hi
    intro i hi hDi
    obtain ⟨p, hp, rfl⟩ := List.mem_map.1 (inS i hi hDi)
    exact hcl p hp
   ·exact (viaClos hw).elim
  obtain ⟨q, hqL, rfl⟩ := ofS j hjS
  obtain ⟨⟨hw, _⟩, hnx⟩ := each q hqL hj
  exact wpOp_mono (fun a' w' ⟨M', h'⟩ => hnx M' a' w' h') hw
theorem QEy (H : CtxOk P w0.gl CF root) (HI : QA0 P base w0 CF root) {dp nn : Nat} {path : List Nat} {ops : Array Oper} {Q : Exit → Act → World → Prop} {K : Nat → Jz R} {r : R} {here i : Nat} {o : Oper} (hoi : ops[i]? = some o) (hsub : ∀ m x, x ∈ QAg (CF m) dp nn path ops.toList here [o] (K m) → x ∈ root m) (m : Nat) (st : St) (M : Me) (a : Act) (w : World)
  (hs : Qgq (CF m) dp nn path ops.toList here [o] (K m) st = some r) (h : RelA P base w0 dp nn st θ M a w) : wpOp P ops Q i (Fam P base w0 dp nn θ m K r) a w := by
 have hsub1 : ∀ g, Y9 (CF 0).I (here :: path) = some g → ∀ m x, x ∈ (CF m).lab dp (here :: path) g (fun v st => K m (st.put dp o.dst v)) → x ∈ root m := by
  intro g hg m x hx
  refine hsub m x ?_
  simp only [QAg]
  rw [H.I_eq m 0, hg]
  exact List.mem_append.2 (.inl hx)
 have go : ∀ (st : St) (M : Me), RelA P base w0 dp nn st θ M a w → QmE nn o = true → Jf (CF m) dp path here o st (K m) = some r → o.wp P a w (Fam P base w0 dp nn θ m K r) Q := by
  intro st M h hd hs
  cases hc : Qbe o with
  | true => exact Qy9 H HI hsub1 h hd hc hs Q
  | false => exact Oper.wp_mono (fun a w hg => ⟨m, Nat.le_refl _, hg⟩) (QqJ (CF m) (H.P_eq m) h hd hc hs Q)
 simp only [Qgq] at hs
 obtain ⟨hd, hs2⟩ := Qk hs
 clear hs
 unfold wpOp
 rw [hoi]
 simp only
 split at hs2
 ·rename_i hg
  have hw : Region.wanted o (yielded ops a.tmps) = true := by simp [Region.wanted, hg]
  rw [if_pos hw]
  exact .inl (go st M h hd hs2)
 ·rename_i j want hg
  split at hs2
  case h_1 => cases hs2
  rename_i t hdst
  have hskip : ∀ st : St, RelA P base w0 dp nn st θ M a w → K m (st.put dp o.dst .un) = some r → Fam P base w0 dp nn θ m K r (a.put o.dst undef) w := by
   intro st h hs
   exact ⟨m, Nat.le_refl _, _, M, h.put (Vb hd) .un rfl, hs⟩
  split at hs2
  case h_3 => cases hs2
  case h_2 =>
   rename_i hun
   have hwant : Region.wanted o (yielded ops a.tmps) = false := by simp [Region.wanted, hg, Qza h hdst hun]
   rw [if_neg (by rw [hwant]; decide)]
   exact hskip _ h hs2
  rename_i bv hbv
  obtain ⟨hy, hset⟩ := QoM h hdst hbv
  have hwant : Region.wanted o (yielded ops a.tmps) = (some bv == some want) := by simp [Region.wanted, hg, hy]
  cases bv with
  | true =>
   cases want with
   | true =>
    rw [if_pos (by rw [hwant]; rfl)]
    exact .inl (go _ M hset hd hs2)
   | false =>
    rw [if_neg (by rw [hwant]; decide)]
    exact hskip _ hset hs2
  | false =>
   cases want with
   | true =>
    rw [if_neg (by rw [hwant]; decide)]
    exact hskip _ hset hs2
   | false =>
    rw [if_pos (by rw [hwant]; rfl)]
    exact .inl (go _ M hset hd hs2)
theorem QDt (H : CtxOk P w0.gl CF root) (HI : QA0 P base w0 CF root) {dp nn id : Nat} {path : List Nat} {ops : Array Oper} {K : Nat → Jz R} {r : R} {N : Nat} {Q : Exit → Act → World → Prop} (hsel : Region.noSelect ops = true) (hQp : ∀ c a w, ¬ Q (.panic c) a w) (hQ : ∀ a w, Fam P base w0 dp nn θ N K r a w → Q .normal a w) :
  ∀ (n : Nat) (listed : Array Bool), (∀ m x, x ∈ QBl (CF m) dp nn path id ops n listed (K m) → x ∈ root m) → ∀ (m : Nat) (st : St) (M : Me) (a : Act) (w : World), m ≤ N → QBk (CF m) dp nn path id ops n listed (K m) st = some r → RelA P base w0 dp nn st θ M a w → listed.size = ops.size → ∀ fuel, unl ops listed ≤ fuel →
   wpAny P .any ops Q fuel listed a w := by
 have hdone : ∀ {listed : Array Bool} {a : Act} {w : World}, Region.ready .any ops listed = [] → Q .normal a w → ∀ fuel, wpAny P .any ops Q fuel listed a w := by
  intro listed a w hr h fuel
  cases fuel with
  | zero => exact ⟨hr, h⟩
  | succ f => exact ⟨fun _ => h, by rw [hr]; simp⟩
 intro n
 induction n with
 | zero =>
  intro listed _ m st M a w hN hs h hsz fuel hf
  simp only [QBk] at hs
  obtain ⟨h0, hs⟩ := Qk hs
  exact hdone (by simpa using h0) (hQ a w ⟨m, hN, _, _, h, hs⟩) _
 | succ n ih =>
  intro listed hsub m st M a w hN hs h hsz fuel hf
  simp only [QBk] at hs
  have hIm : ∀ m, (CF m).I = (CF 0).I := fun m => H.I_eq m 0
  cases h0 : (Region.ready .any ops listed).isEmpty with
  | true =>
   rw [h0] at hs
   exact hdone (by simpa using h0) (hQ a w ⟨m, hN, _, _, h, hs⟩) _
  | false =>
   rw [h0] at hs
   simp only [cond_false] at hs
   rw [H.P_eq m, hIm m] at hs
   cases hok : QhX P (CF 0).I path id ops listed (QmF P (CF 0).I path id ops listed) with
   | true =>
    rw [hok] at hs
    simp only [cond_true] at hs
    have hsub' : ∀ m x, x ∈ QBl (CF m) dp nn path id ops n ((QmF P (CF 0).I path id ops listed).foldl (fun l i => l.setIfInBounds i true) listed) (K m) → x ∈ root m := by
     intro m x hx
     refine hsub m x ?_
     simp only [QBl]
     rw [h0, H.P_eq m, hIm m]
     simp only [cond_false]
     rw [hok]
     exact hx
    have hpl : ∀ i ∈ QmF P (CF 0).I path id ops listed, Qgw P (CF m).I path id ops i = true := by
     intro i hi
     have h1 := hok
     unfold QhX at h1
     simp only [Bool.and_eq_true, List.all_eq_true] at h1
     rw [hIm m]
     exact (h1.1.1.2 i hi).1.1.1
    obtain ⟨L, h1, h2, h3⟩ := QCv (θ := θ) (base := base) (w0 := w0) (Q := Q) H m _ st (fun i hi => ⟨hpl i hi, fun hg => by rw [Bool.not_eq_false', List.any_eq_true]; exact ⟨i, hi, hg⟩⟩) hs
    exact QBL hok hsel hQp h1 h3 (fun M a w f h hf => ih _ hsub' m _ M a w hN h2 h (by rw [Qe8]; exact hsz) f hf) L.length [] (by simp) List.nodup_nil (fun p hp => by cases hp) (fun p hp => by cases hp) M a w fuel h hf
   | false =>
    rw [hok] at hs
    simp only [cond_false] at hs
    split at hs
    case h_2 => cases hs
    rename_i i hready
    split at hs
    case h_2 => cases hs
    rename_i o hi
    have hri : i ∈ Region.ready .any ops listed := by rw [hready]; simp
    have hcount : unl ops (listed.setIfInBounds i true) + 1 ≤ unl ops listed := by
     obtain ⟨r1, r2, _⟩ := Qbk.1 hri
     exact QD7 r1 hsz r2
    obtain ⟨fuel, rfl⟩ : ∃ f, fuel = f + 1 := ⟨fuel - 1, by omega⟩
    have hlab : ∀ m, QBl (CF m) dp nn path id ops (n + 1) listed (K m) = QAg (CF m) dp nn path ops.toList (1000 * id + i) [o] (QBk (CF m) dp nn path id ops n (listed.setIfInBounds i true) (K m)) ++ QBl (CF m) dp nn path id ops n (listed.setIfInBounds i true) (K m) := by
     intro m
     simp only [QBl]
     rw [h0, H.P_eq m, hIm m]
     simp only [cond_false]
     rw [hok]
     simp only [cond_false, hready, hi]
    have hone := QEy (Q := Q) (θ := θ) (K := fun m => QBk (CF m) dp nn path id ops n (listed.setIfInBounds i true) (K m)) H HI hi (fun m x hx => hsub m x (by rw [hlab m]; exact List.mem_append.2 (.inl hx))) m st M a w hs h
    refine ⟨(fun e => by rw [hready] at e; cases e), fun k hk => ?_⟩
    rw [hready, List.mem_singleton] at hk
    subst hk
    refine wpOp_mono ?_ hone
    rintro a' w' ⟨m', hm', st', M', h', hs'⟩
    exact ih _ (fun m x hx => hsub m x (by rw [hlab m]; exact List.mem_append.2 (.inr hx))) m' st' M' a' w' (Nat.le_trans hm' hN) hs' h' (by rw [Array.size_setIfInBounds]; exact hsz) fuel (by omega)
end
end Go.Ab
