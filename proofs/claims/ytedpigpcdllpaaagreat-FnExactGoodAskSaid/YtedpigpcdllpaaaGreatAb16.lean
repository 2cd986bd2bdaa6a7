import Derived.Test.YtedpigpcdllpaaaGreatAb15
namespace Go.Ab
noncomputable section
variable {R : Type}
theorem Rel.congr {P : Program} {base : Base} {w0 : Orig} {dp : Nat} {st : St} {θ θ' : Nat → Nat → Value} {M : Me} {w : World} (h : Rel P base w0 dp st θ M w) (he : ∀ d t,d ≤ dp → θ d t = θ' d t) : Rel P base w0 dp st θ' M w :=
 { h with tm:=fun d t hd=>by rw [← he d t hd]; exact h.tm d t hd }
section
variable {P : Program} {base : Base} {w0 : Orig}
def Qpc (P : Program) (L : Nat → List Nat → List V → Option R) (A : List (List Nat × Ann)) (I : List (List Nat × Nat)) (con : Nat → List V → (V → Option R) → Option R) (k : Nat) (m : Nat) : Ctx R:=Qml P (L m) A I con k
theorem ER (L : List Nat → List V → Option R) (A : List (List Nat × Ann)) (I : List (List Nat × Nat)) (con : Nat → List V → (V → Option R) → Option R) (k : Nat) :
  (Qml P L A I con k).P = P ∧ (Qml P L A I con k).A = A ∧ (Qml P L A I con k).I = I ∧ (Qml P L A I con k).con = con ∧ (Qml P L A I con k).L = L:=by
 cases k <;> exact ⟨rfl,rfl,rfl,rfl,rfl⟩
theorem QCF {θ : Nat → Nat → Value} {fn : Func} {dp nn m : Nat} {K : Nat → V → JC R} {r : R} {R' : Ending → World → Prop}
  (hK : ∀ (m' : Nat) (st : St) (M : Me) (a : Act) (w : World) (v : V) (u : Value),m' ≤ m → RelA P base w0 dp nn st θ M a w → QF8 P fn dp st = some v → (results fn a.tmps).run P w = .ok u w → K m' v st = some r →
   ((∀ n,n < dp → v.le n = true → RelV (M.leave dp w) v u) ∧ ∀ tys x,tys.length = fn.results.size → Qy tys v = some x → ∀ M' : Me,(M.leave dp w).F.le M'.F → RelV M' (Qak tys x) u) → R' (.returned u) w) :
  ∀ e a w,Post P base w0 dp nn θ m (fun m=>Qyb P fn dp (K m)) r e a w → bodyPost P fn R' e a w:=by
 have fin : ∀ a w,Fam P base w0 dp nn θ m (fun m=>Qyb P fn dp (K m) .ret) r a w → a.defers = [] ∧ ∃ v,(results fn a.tmps).run P w = .ok v w ∧ R' (.returned v) w:=by
  rintro a w ⟨m',hm',st,M,h,hk⟩
  refine ⟨h.defers,?_⟩
  simp only [Qyb] at hk
  split at hk
  case h_2=>cases hk
  rename_i v hv
  obtain ⟨u,hu,hres⟩:=QDw h hv
  exact ⟨u,hu,hK m' st M a w v u hm' h hv hu hk hres⟩
 intro e a w hp
 cases e with
 | normal=>exact fin a w hp
 | ret=>exact fin a w hp
 | exit i =>
  obtain ⟨m',_,st,M,_,hk⟩:=hp
  simp only [Qyb] at hk
  cases hk
 | goto l=>exact hp.elim
 | panic c=>exact hp.elim
 | outgrown=>exact hp.elim
theorem QfO {L : Nat → List Nat → List V → Option R} {A : List (List Nat × Ann)} {I : List (List Nat × Nat)} {con : Nat → List V → (V → Option R) → Option R} {root : Nat → QcO R} (hH : ∀ k,CtxOk P w0.gl (Qpc P L A I con k) root) :
  ∀ k,QAV P base w0 (Qpc P L A I con k) root
 | 0=>by
  intro d path g KV _ m args st r M θ w vals hs
  simp only [Qpc,Qml] at hs
  cases hs
 | k + 1=>by
  intro d path g KV hsub m args st r M θ w vals hs h hlen hr hle
  simp only [Qpc,Qml] at hs
  split at hs
  case h_2=>cases hs
  rename_i fn hf
  split at hs
  case h_2=>cases hs
  rename_i c hb
  obtain ⟨h0,hs2⟩:=Qs hs
  clear hs
  simp only [Bool.and_eq_true] at h0
  have hn:=Nat.le_of_ble_eq_true h0.1
  have hent : Vq P g = true:=h0.2
  refine ⟨hent,?_⟩
  have hra:=QED (fn:=fn) h hlen hr hle hn
  have hsub' : ∀ m x,x ∈ YT (Qpc P L A I con k m) (d + 1) fn.ntmps path c (Qyb P fn (d + 1) (QuQ d (KV m))) → x ∈ root m:=by
   intro m x hx
   refine hsub m x ?_
   simp only [Qpc,Qml,hf,hb]
   exact hx
  have hw:=Gt (hH k) (QfO hH k) c (fun m=>Qyb P fn (d + 1) (QuQ d (KV m))) r hsub' m _ M _ w hs2 hra
  refine calls_of_wp hf hb (wp_mono hw (QCF (K:=fun m=>QuQ d (KV m)) ?_))
  intro m' st' M' a' w' v u hm' h' hv hu hk hres
  unfold QuQ at hk
  obtain ⟨hvl,hk⟩:=Qs hk
  refine ⟨u,v,m',_,M'.leave (d + 1) w',hm',rfl,hk,(QEF h'.rel).congr ?_,hres.1 d (by omega) hvl,hvl⟩
  intro d' t hd'
  simp only [thA]
  rw [if_neg (by omega)]
theorem Qx1 {gl : Nat → Option (List V)} {A : List (List Nat × Ann)} {I : List (List Nat × Nat)} {con : Nat → List V → (V → Option R) → Option R} {fn : Func} {c : Code} {fin : Qbh R} (hcon : Qqi P gl con) (k : Nat) :
  CtxOk P gl (Qpc P (Qi0 P gl A I con fn c fin) A I con k) (fun m=>YT (Qml P (Qi0 P gl A I con fn c fin m) A I con Gy) 0 fn.ntmps [] c fin) where
 P_eq:=fun m=>(ER _ _ _ _ k).1
 A_eq:=fun m m'=>by unfold Qpc; rw [(ER _ _ _ _ k).2.1,(ER _ _ _ _ k).2.1]
 I_eq:=fun m m'=>by unfold Qpc; rw [(ER _ _ _ _ k).2.2.1,(ER _ _ _ _ k).2.2.1]
 con:=fun m=>by unfold Qpc; rw [(ER _ _ _ _ k).2.2.2.1]; exact hcon
 L:=by
  intro m q vs r hl
  unfold Qpc at hl ⊢
  rw [(ER _ _ _ _ k).2.2.2.2] at hl
  rw [(ER _ _ _ _ k).2.1]
  cases m with
  | zero=>simp only [Qi0] at hl; cases hl
  | succ m =>
   simp only [Qi0] at hl
   split at hl
   case h_2=>cases hl
   rename_i f an hf han
   exact ⟨m,f,an,rfl,hf,han,hl⟩
theorem Qvd {gl : Nat → Option (List V)} {F : Snap} {w : World} (hgl : GlobOk gl F) (hF : ∀ a u,F a = some u → Sees w a u) {fn : Func} {args : List V} {vals : List Value} (hlen : args.length = vals.length)
  (hr : ∀ (i : Nat) c u,args[i]? = some c → vals[i]? = some u → ∀ M : Me,M.F = F → RelV M c u) (hle : V.le.leL 0 args = true) (hn : args.length ≤ fn.ntmps) :
  RelA P ⟨w.heap.size,[]⟩ ⟨w,F,gl,hgl⟩ 0 fn.ntmps (Xl { St.empty with gl:=gl } 0 args) (fun _ _=>undef) ⟨F,fun _ _=>none,fun _=>none,0,.no⟩ (QdP fn vals.toArray) w:=by
 refine ⟨⟨hF,?_,?_,?_,fun _ _ _=>rfl,fun _ _ _ _ _ _ _ h=>(by cases h),fun _ _ _ _ _ h=>(by cases h),fun _ _ h=>(by cases h),fun k h=>(by simp [Xl,St.empty] at h),fun _ _ _ _ h=>(by cases h),fun _ _ _ _ _ _ h=>(by cases h),rfl,fun k _=>rfl,Nat.le_refl _,.refl _ _,.refl _,fun _ _ h=>.inl h,rfl,fun _ _ h=>(by cases h),.no rfl⟩,?_,rfl⟩
 ·intro d t hd
  have e : d = 0:=by omega
  subst e
  simp only [Xl,thA]
  simp only [if_true]; rw [QaE,if_pos (Nat.zero_le _),UJ,if_pos rfl,Qrh]
  simp only [Nat.sub_zero]
  cases hc : args[t]? with
  | none=>exact .any _
  | some c =>
   have hlt : t < vals.length:=by rw [← hlen]; exact (List.getElem?_eq_some_iff.1 hc).1
   have hu : vals[t]? = some vals[t]:=List.getElem?_eq_getElem hlt
   have : vals.toArray.getD t undef = vals[t]:=by simp [Array.getD_eq_getD_getElem?,hu]
   rw [this]
   exact hr t c _ hc hu _ rfl
 ·intro d t hd
  have e : d = 0:=by omega
  subst e
  simp only [Xl]
  rw [QaE,if_pos (Nat.zero_le _),UJ,if_pos rfl]
  simp only [Nat.sub_zero]
  cases hc : args[t]? with
  | none=>rfl
  | some c=>exact VQ hle hc
 ·intro d s hd
  have e : d = 0:=by omega
  subst e
  simp only [Xl]
  rw [Qo6,if_pos rfl]
  trivial
 ·simp only [QdP,Array.size_append,List.size_toArray,Array.size_replicate]
  omega
theorem QAZ {g : Nat} {fn : Func} {c : Code} (hf : P.funcs[g]? = some fn) (hb : fn.body = some c) {A : List (List Nat × Ann)} {I : List (List Nat × Nat)} {tys : List Ty} {gl : Nat → Option (List V)} {con : Nat → List V → (V → Option (QcQ tys)) → Option (QcQ tys)} (hcon : Qqi P gl con)
  (hres : tys.length = fn.results.size) {n : Nat} {args : List V} {y : QcQ tys} (hrun : QuR P gl A I con fn c (QE7 P fn (Qy tys)) n args = some y) {F : Snap} {w : World} {vals : List Value} (hgl : GlobOk gl F) (hF : ∀ a u,F a = some u → Sees w a u)
  (hlen : args.length = vals.length) (hr : ∀ (i : Nat) c u,args[i]? = some c → vals[i]? = some u → ∀ M : Me,M.F = F → RelV M c u) (hle : V.le.leL 0 args = true) :
  Calls P g vals.toArray w fun e w'=>∃ u F',e = .returned u ∧ F.le F' ∧ (∀ a u,F' a = some u → F a = some u ∨ (Sees w' a u ∧ w.heap.size ≤ a.block)) ∧
   BelowN w.heap.size w w' ∧ ∀ M : Me,F'.le M.F → RelV M (Qak tys y) u:=by
 unfold QuR QE7 at hrun
 obtain ⟨h0,hrun⟩:=Qs hrun
 have hn:=Nat.le_of_ble_eq_true h0
 have hra:=Qvd (P:=P) (fn:=fn) hgl hF hlen hr hle hn
 have hH:=fun k=>Qx1 (P:=P) (gl:=gl) (A:=A) (I:=I) (con:=con) (fn:=fn) (c:=c) (fin:=Qyb P fn 0 fun v _=>Qy tys v) hcon k
 have hw:=Gt (hH Gy) (QfO hH Gy) c (fun _=>Qyb P fn 0 fun v _=>Qy tys v) y (fun m x hx=>hx) n _ _ _ w hrun hra
 refine calls_of_wp hf hb (wp_mono hw (QCF (K:=fun _ v _=>Qy tys v) ?_))
 intro m' st' M' a' w' v u _ h' hv hu hk hres'
 refine ⟨u,(M'.leave 0 w').F,rfl,h'.rel.F0.trans (UK 0),?_,h'.rel.below.toN,fun M hM=>hres'.2 tys y hres hk M hM⟩
 intro ad x hx
 rcases QCE hx with h1 | ⟨_,⟨s,k,h3⟩ | ⟨_,k,reg,h3,h6⟩,h4⟩
 ·rcases h'.rel.Fnew ad x h1 with h5 | h5
  ·exact .inl h5
  ·exact .inr ⟨h'.rel.F ad x h1,h5.nil⟩
 ·have hbx:=h'.rel.bx 0 s (Nat.le_refl _)
  split at hbx
  ·rw [hbx] at h3; cases h3
  ·obtain ⟨b,T,arr,k1,k2,_⟩:=hbx
   rw [h3] at k1; cases k1; exact .inr ⟨h4,k2.nil⟩
  ·obtain ⟨b,T,arr,k1,k2,_⟩:=hbx
   rw [h3] at k1; cases k1; exact .inr ⟨h4,k2.nil⟩
  ·obtain ⟨b,ms,c,k1,k2,_⟩:=hbx
   rw [h3] at k1; cases k1; exact .inr ⟨h4,k2.nil⟩
 ·obtain ⟨_,_,h5⟩:=h'.rel.tok k _ h3
  exact .inr ⟨h4,by rw [← h6]; exact (h5 reg rfl).1.nil⟩
theorem QyV {θ : Nat → Nat → Value} {st : St} {M : Me} {w : World} (h : Rel P base w0 0 st θ M w) {t : Ty} {v : V} {u : Value} {xs : List t.den} (hv : QE8 t st v = some xs) (hu : RelV M v u) :
  ∃ F' o,M.F.le F' ∧ (∀ a u,F' a = some u → M.F a = some u ∨ (Sees w a u ∧ Own base a.block)) ∧ RelD F' (.list t) xs [u] ∧ EO o u xs.length t.cells ∧ ∀ reg,o = some reg → Own base reg.g ∧ reg.n ≤ reg.cap ∧ reg.cap ≤ maxLen ∧
    ∃ cur e',w.heap[reg.g]? = some (.cells cur e' (0,0)) ∧ cur.size = reg.cap * reg.sz ∧ ∀ ad,ad.block = reg.g → reg.n * reg.sz ≤ ad.off → F' ad = none:=by
 unfold QE8 at hv
 split at hv
 ·cases hv
  cases hu with
  | nils=>exact ⟨M.F,none,.refl _,fun _ _ h=>.inl h,QdL _ _,⟨rfl,rfl⟩,fun _ h=>by cases h⟩
 ·rename_i tok t' ys
  obtain ⟨hl,hv⟩:=Qs hv
  obtain ⟨o,ho⟩:=h.live tok hl
  obtain ⟨e,rfl⟩:=castL?_eq hv
  subst e
  cases hu with
  | own _ _ _ _ hd hN hg =>
   refine ⟨M.F,o,.refl _,fun _ _ h=>.inl h,hd,hg o ho,fun reg hreg=>?_⟩
   obtain ⟨_,_,q⟩:=h.tok tok _ ho
   exact q reg hreg
 ·rename_i tok
  split at hv
  case h_2=>cases hv
  rename_i t' ys hb
  obtain ⟨e,rfl⟩:=castL?_eq hv
  subst e
  obtain ⟨h1,h2,h3⟩:=h.rw tok _ hb
  obtain ⟨o,ho⟩:=h.live tok h1
  have hv:=hu.raw_inv.2 o ho
  cases o with
  | none =>
   obtain rfl:=show u = _ from hv
   obtain rfl:=show ys = [] from h2 ho
   exact ⟨M.F,none,.refl _,fun _ _ h=>.inl h,QdL _ _,⟨rfl,rfl⟩,fun _ h=>by cases h⟩
  | some reg =>
   obtain ⟨k1,k2,k3,cur,e,k4,k5⟩:=h3 reg ho
   obtain ⟨_,_,q⟩:=h.tok tok _ ho
   obtain ⟨q1,q2,q3,cur',e',q4,q5,_⟩:=q reg rfl
   rw [k4] at q4
   cases q4
   simp only at k1 k2 k5
   obtain rfl:=show u = _ from hv
   have hcl : cur.toList.length = cur.size:=Array.length_toList
   have hfit : ys.length * t'.cells ≤ cur.toList.length:=by rw [hcl,q5,k2]; exact Nat.mul_le_mul_right _ (by omega)
   have hrows:=QxX (xs:=ys) (ty:=t') k5 hfit
   have hpl : (cur.toList.take (ys.length * t'.cells)).length = reg.n * reg.sz:=by rw [List.length_take,k1,k2]; omega
   have hle : M.F.le (M.F.cells reg.g (cur.toList.take (ys.length * t'.cells))):=by
    intro ad x hx
    unfold Snap.cells
    by_cases hg : ad.block = reg.g
    ·rw [k3 ad hg] at hx; cases hx
    ·rw [if_neg (fun q=>hg q.1)]; exact hx
   refine ⟨M.F.cells reg.g (cur.toList.take (ys.length * t'.cells)),some reg,hle,?_,?_,?_,?_⟩
   ·intro ad x hx
    unfold Snap.cells at hx
    split at hx
    ·rename_i hc
     obtain ⟨c1,c2,c3⟩:=hc
     right
     rw [List.getElem?_take,if_pos (by rw [List.length_take] at c3; omega)] at hx
     refine ⟨.of c2 ?_,by rw [c1]; exact q1⟩
     obtain ⟨b,of,sp⟩:=ad
     simp only at c1 c2 hx
     subst c1; subst c2
     rw [VT k4]
     simpa using hx
    ·exact .inl hx
   ·rw [k1]
    exact (hrows.mono hle).slice (o:=0) (fun j x hx=>by rw [Nat.zero_add]; exact Qu2 hx) (by omega) q3
   ·exact ⟨0,⟨reg.g,0,none⟩,by rw [k1]; rfl,fun _=>by rw [Nat.zero_mul],by rw [k1]; exact (Nat.zero_add _).symm,Nat.zero_le _,k2⟩
   ·intro r hr
    cases hr
    refine ⟨q1,q2,q3,cur,e,k4,q5,fun ad hb ho=>?_⟩
    unfold Snap.cells
    rw [if_neg (fun q=>by have:=q.2.2; omega)]
    exact k3 ad hb
 ·cases hv
theorem QCG {θ : Nat → Nat → Value} {fn : Func} {nn : Nat} {st : St} {M : Me} {a : Act} {w : World} (h : RelA P base w0 0 nn st θ M a w) {t : Ty} {xs : List t.den} (hk : QdK P fn t .ret st = some xs) :
  ∃ v u,(results fn a.tmps).run P w = .ok u w ∧ QE8 t st v = some xs ∧ RelV M v u:=by
 have one : ∀ (x : ResultVar) (u : Value),fn.results.toList = [x] → (QcV a.tmps x).run P w = .ok u w → (results fn a.tmps).run P w = .ok u w:=by
  intro x u hx hr
  have hts : (fn.results.toList.mapM (QcV a.tmps)).run P w = .ok [u] w:=by
   rw [hx,List.mapM_cons]
   simp only [Sem.run_bind,hr,Result.andThen_ok,List.mapM_nil,Sem.run_pure]
  have:=Qhu hts
  rw [dif_pos (by simp)] at this
  exact this
 simp only [QdK] at hk
 split at hk
 ·rename_i x hx
  have htm:=h.rel.tm 0 x (Nat.le_refl _)
  simp only [thA,if_true] at htm
  exact ⟨_,_,one _ _ hx rfl,hk,htm⟩
 ·rename_i p ty hx
  have htm:=h.rel.tm 0 p (Nat.le_refl _)
  simp only [thA,if_true] at htm
  obtain ⟨v0,u,h1,h2,h3,_⟩:=QdM hk h.rel htm (h.rel.le 0 p (Nat.le_refl _))
  have hp : ∃ ad,a.tmps.getD p undef = .pointer (some ad):=QuW hk h.rel htm
  obtain ⟨ad,hp⟩:=hp
  have h2:=h2 w (.refl _ _)
  rw [hp] at h2
  refine ⟨v0,u,one _ _ hx ?_,h1,h3⟩
  simp only [QcV,hp,asAddr,Sem.run_bind,Sem.run_pure,Result.andThen_ok]
  simpa only [Instr.loadAt,Instr.sureAddr,Sem.run_bind,Sem.run_pure,Result.andThen_ok] using h2
 ·cases hk
theorem QEG {g : Nat} {fn : Func} {c : Code} (hf : P.funcs[g]? = some fn) (hb : fn.body = some c) {A : List (List Nat × Ann)} {I : List (List Nat × Nat)} {t : Ty} {gl : Nat → Option (List V)} {con : Nat → List V → (V → Option (List t.den)) → Option (List t.den)} (hcon : Qqi P gl con)
  {n : Nat} {args : List V} {xs : List t.den} (hrun : QuR P gl A I con fn c (QdK P fn t) n args = some xs) {F : Snap} {w : World} {vals : List Value} (hgl : GlobOk gl F) (hF : ∀ a u,F a = some u → Sees w a u)
  (hlen : args.length = vals.length) (hr : ∀ (i : Nat) c u,args[i]? = some c → vals[i]? = some u → ∀ M : Me,M.F = F → RelV M c u) (hle : V.le.leL 0 args = true) :
  Calls P g vals.toArray w fun e w'=>∃ u F' o,e = .returned u ∧ F.le F' ∧ (∀ a u,F' a = some u → F a = some u ∨ (Sees w' a u ∧ w.heap.size ≤ a.block)) ∧
   BelowN w.heap.size w w' ∧ RelD F' (.list t) xs [u] ∧ EO o u xs.length t.cells ∧ ∀ reg,o = some reg → w.heap.size ≤ reg.g ∧ reg.n ≤ reg.cap ∧ reg.cap ≤ maxLen ∧
    ∃ cur e',w'.heap[reg.g]? = some (.cells cur e' (0,0)) ∧ cur.size = reg.cap * reg.sz ∧ ∀ ad,ad.block = reg.g → reg.n * reg.sz ≤ ad.off → F' ad = none:=by
 unfold QuR at hrun
 obtain ⟨h0,hrun⟩:=Qs hrun
 have hn:=Nat.le_of_ble_eq_true h0
 have hra:=Qvd (P:=P) (fn:=fn) hgl hF hlen hr hle hn
 have hH:=fun k=>Qx1 (P:=P) (gl:=gl) (A:=A) (I:=I) (con:=con) (fn:=fn) (c:=c) (fin:=QdK P fn t) hcon k
 have hw:=Gt (hH Gy) (QfO hH Gy) c (fun _=>QdK P fn t) xs (fun m x hx=>hx) n _ _ _ w hrun hra
 refine calls_of_wp hf hb (wp_mono hw ?_)
 have fin : ∀ a w',Fam P ⟨w.heap.size,[]⟩ ⟨w,F,gl,hgl⟩ 0 fn.ntmps (fun _ _=>undef) n (fun _=>QdK P fn t .ret) xs a w' → a.defers = [] ∧ ∃ v,(results fn a.tmps).run P w' = .ok v w' ∧ ∃ u F' o,Ending.returned v = .returned u ∧ F.le F' ∧ (∀ a u,F' a = some u → F a = some u ∨ (Sees w' a u ∧ w.heap.size ≤ a.block)) ∧
   BelowN w.heap.size w w' ∧ RelD F' (.list t) xs [u] ∧ EO o u xs.length t.cells ∧ ∀ reg,o = some reg → w.heap.size ≤ reg.g ∧ reg.n ≤ reg.cap ∧ reg.cap ≤ maxLen ∧
    ∃ cur e',w'.heap[reg.g]? = some (.cells cur e' (0,0)) ∧ cur.size = reg.cap * reg.sz ∧ ∀ ad,ad.block = reg.g → reg.n * reg.sz ≤ ad.off → F' ad = none:=by
  rintro a w' ⟨m',hm',st',M',h,hk⟩
  refine ⟨h.defers,?_⟩
  obtain ⟨v,u,hu,ho,hv⟩:=QCG h hk
  obtain ⟨F',o,k1,k2,k3,k4,k5⟩:=QyV h.rel ho hv
  refine ⟨u,hu,u,F',o,rfl,h.rel.F0.trans k1,?_,h.rel.below.toN,k3,k4,fun reg hreg=>⟨(k5 reg hreg).1.nil,(k5 reg hreg).2⟩⟩
  intro ad x hx
  rcases k2 ad x hx with h1 | h1
  ·rcases h.rel.Fnew ad x h1 with h5 | h5
   ·exact .inl h5
   ·exact .inr ⟨h.rel.F ad x h1,h5.nil⟩
  ·exact .inr ⟨h1.1,h1.2.nil⟩
 intro e a w' hp
 cases e with
 | normal=>exact fin a w' hp
 | ret=>exact fin a w' hp
 | exit i =>
  obtain ⟨m',_,st',M',_,hk⟩:=hp
  simp only [QdK] at hk
  cases hk
 | goto l=>exact hp.elim
 | panic c=>exact hp.elim
 | outgrown=>exact hp.elim
end
end
end Go.Ab
