import Derived.Test.YtedpigpcdllpaaaGreatAb16
namespace Go.Ab
variable {R : Type}
section
variable {P : Program} {base : Base} {w0 : Orig} {dp nn : Nat} {st : St} {θ : Nat → Nat → Value} {M : Me} {a : Act} {w w' : World}
theorem Qii (h : RelA P base w0 0 nn st θ M a w) : ∀ (l : List ResultVar) (vs : List V),Qkp P st l = some vs → ∃ us : List Value,(l.mapM (QcV a.tmps)).run P w = .ok us w ∧ us.length = l.length ∧ vs.length = us.length ∧
  ∀ (i : Nat) v u,vs[i]? = some v → us[i]? = some u → RelV M v u
 | [],vs,hv=>by
  simp only [Qkp,Option.some.injEq] at hv
  subst hv
  exact ⟨[],rfl,rfl,rfl,fun i v t h=>by simp at h⟩
 | .tmp t :: l,vs,hv=>by
  simp only [Qkp] at hv
  obtain ⟨vs',h2,rfl⟩:=Option.map_eq_some_iff.1 hv
  obtain ⟨us,hruns,hl0,hl,hrs⟩:=Qii h l vs' h2
  have htm:=h.rel.tm 0 t (Nat.le_refl _)
  simp only [thA,if_true] at htm
  refine ⟨a.tmps.getD t undef :: us,?_,by simp [hl0],by simp [hl],fun i v' t' hv' ht'=>?_⟩
  ·rw [List.mapM_cons]
   have : (QcV a.tmps (.tmp t)).run P w = .ok (a.tmps.getD t undef) w:=rfl
   simp only [Sem.run_bind,this,Result.andThen_ok,hruns,Sem.run_pure]
  cases i with
  | zero=>simp only [List.getElem?_cons_zero,Option.some.injEq] at hv' ht'; subst hv'; subst ht'; exact htm
  | succ i=>simp only [List.getElem?_cons_succ] at hv' ht'; exact hrs i v' t' hv' ht'
 | .cell p ty :: l,vs,hv=>by
  simp only [Qkp] at hv
  have htm:=h.rel.tm 0 p (Nat.le_refl _)
  simp only [thA,if_true] at htm
  obtain ⟨v0,u,h1,h2,h3,_⟩:=QdM hv h.rel htm (h.rel.le 0 p (Nat.le_refl _))
  obtain ⟨ad,hp⟩:=QuW hv h.rel htm
  obtain ⟨vs',h4,rfl⟩:=Option.map_eq_some_iff.1 h1
  obtain ⟨us,hruns,hl0,hl,hrs⟩:=Qii h l vs' h4
  have h2:=h2 w (.refl _ _)
  rw [hp] at h2
  refine ⟨u :: us,?_,by simp [hl0],by simp [hl],fun i v' t' hv' ht'=>?_⟩
  ·rw [List.mapM_cons]
   have : (QcV a.tmps (.cell p ty)).run P w = .ok u w:=by
    simp only [QcV,hp,asAddr,Sem.run_bind,Sem.run_pure,Result.andThen_ok]
    simpa only [Instr.loadAt,Instr.sureAddr,Sem.run_bind,Sem.run_pure,Result.andThen_ok] using h2
   simp only [Sem.run_bind,this,Result.andThen_ok,hruns,Sem.run_pure]
  cases i with
  | zero=>simp only [List.getElem?_cons_zero,Option.some.injEq] at hv' ht'; subst hv'; subst ht'; exact h3
  | succ i=>simp only [List.getElem?_cons_succ] at hv' ht'; exact hrs i v' t' hv' ht'
theorem QCH {dr : Nat → Option RBox} (h : DpInv base st.dr st.nd M w) {v : V} {u : Value} (hv : v.dwhole st = true) (hr : RelV M v u) : Jy w (st.res v) u (M.blk v.drs):=by
 cases v with
 | agg cs =>
  obtain ⟨arr,rfl,hl⟩:=hr.aggL
  exact ⟨arr,rfl,QdO h hv hl⟩
 | _=>exact (Qkt h (by unfold V.dwhole at hv; exact hv) hr).1
theorem Qs1 (h : DpInv base st.dr st.nd M w) : ∀ (vs : List V) (us : List Value),vs.all (V.dwhole st) = true → vs.length = us.length → (∀ (i : Nat) v u,vs[i]? = some v → us[i]? = some u → RelV M v u) → Jy.DeepVL w (St.res.resL st vs) us (M.blk (V.drs.drsL vs))
 | [],us,_,hl,_=>by
  have : us = []:=List.eq_nil_of_length_eq_zero hl.symm
  subst this
  exact ⟨rfl,rfl⟩
 | v :: vs,[],_,hl,_=>by simp at hl
 | v :: vs,u :: us,hv,hl,hr=>by
  simp only [List.all_cons,Bool.and_eq_true] at hv
  exact ⟨u,us,_,_,rfl,by simp only [V.drs.drsL]; exact Qra M _ _,QCH (dr:=st.dr) h hv.1 (hr 0 v u rfl rfl),Qs1 h vs us hv.2 (by simpa using hl) (fun i c u hc hu=>hr (i + 1) c u (by simpa using hc) (by simpa using hu))⟩
theorem QyW : ∀ (tys : List Ty) (vs : List V) (y : QcQ tys) (us : List Value) (bs : List Nat),WD tys vs = some y → tys.all Ty.dok = true → Jy.DeepVL w vs us bs → Jy.DeepVL w (ZZ tys y) us bs
 | [],[],y,us,bs,_,_,hd=>hd
 | [],_ :: _,y,us,bs,h,_,_=>by simp [WD] at h
 | [t],[],y,us,bs,h,_,_=>by simp [WD] at h
 | [t],[v],y,us,bs,h,ht,hd=>by
  obtain ⟨u,us1,b1,b2,rfl,rfl,h1,h2⟩:=hd
  simp only [List.all_cons,List.all_nil,Bool.and_true] at ht
  exact ⟨u,us1,b1,b2,rfl,rfl,Qm9 (Qq9 ht h h1),h2⟩
 | [t],_ :: _ :: _,y,us,bs,h,_,_=>by simp [WD] at h
 | t :: t' :: ts,[],y,us,bs,h,_,_=>by simp [WD] at h
 | t :: t' :: ts,v :: vs,y,us,bs,h,ht,hd=>by
  obtain ⟨u,us1,b1,b2,rfl,rfl,h1,h2⟩:=hd
  rw [List.all_cons,Bool.and_eq_true] at ht
  simp only [WD] at h
  split at h
  case h_2=>cases h
  rename_i x z hx hz
  cases h
  exact ⟨u,us1,b1,b2,rfl,rfl,Qm9 (Qq9 ht.1 hx h1),QyW (t' :: ts) vs z us1 b2 hz ht.2 h2⟩
theorem QFH (h : RelA P base w0 0 nn st θ M a w) {fn : Func} {rets : List Ty} {y : QcQ rets} (hk : QwV P fn rets .ret st = some y) :
  ∃ u bs,(results fn a.tmps).run P w = .ok u w ∧ Jy w (Qak rets y) u bs ∧ bs.Nodup ∧ ∀ c ∈ bs,M.mine c:=by
 simp only [QwV] at hk
 split at hk
 case h_2=>cases hk
 rename_i vs hvs
 obtain ⟨h0,hp⟩:=Qs hk
 simp only [Bool.and_eq_true] at h0
 obtain ⟨⟨⟨h1,h2⟩,h3⟩,h4⟩:=h0
 have h4 : vs.length = rets.length:=Nat.eq_of_beq_eq_true h4
 obtain ⟨us,k1,k2,k3,k4⟩:=Qii h _ _ hvs
 have hd:=QyW rets _ y us _ hp h3 (Qs1 h.rel.dpi vs us h1 k3 k4)
 refine ⟨_,M.blk (V.drs.drsL vs),Qhu k1,?_,h.rel.dpi.blk_nodup (QaD.1 h2),fun c hc=>Qna hc⟩
 have hus : us.length = rets.length:=by omega
 match rets,y,hd,hus with
 | [],y,hd,hus =>
  have : us = []:=List.eq_nil_of_length_eq_zero hus
  subst this
  exact ⟨#[],rfl,hd⟩
 | [t],y,hd,hus =>
  obtain ⟨u,rfl⟩ : ∃ u,us = [u]:=List.length_eq_one_iff.1 hus
  obtain ⟨u',us1,b1,b2,e1,e2,q1,q2,q3⟩:=hd
  simp only [List.cons.injEq] at e1
  obtain ⟨rfl,rfl⟩:=e1
  subst q3
  rw [e2,List.append_nil]
  exact q1
 | t :: t' :: ts,y,hd,hus =>
  rw [dif_neg (by simp at hus ⊢; omega)]
  exact ⟨us.toArray,rfl,hd⟩
theorem QDx {g : Nat} {fn : Func} {c : Code} (hf : P.funcs[g]? = some fn) (hb : fn.body = some c) {A : List (List Nat × Ann)} {I : List (List Nat × Nat)} {rets : List Ty} {gl : Nat → Option (List V)} {con : Nat → List V → (V → Option (QcQ rets)) → Option (QcQ rets)} (hcon : Qqi P gl con)
  {n : Nat} {args : List V} {y : QcQ rets} (hrun : QuR P gl A I con fn c (QwV P fn rets) n args = some y) {F : Snap} {w : World} {vals : List Value} (hgl : GlobOk gl F) (hF : ∀ a u,F a = some u → Sees w a u)
  (hlen : args.length = vals.length) (hr : ∀ (i : Nat) c u,args[i]? = some c → vals[i]? = some u → ∀ M : Me,M.F = F → RelV M c u) (hle : V.le.leL 0 args = true) :
  Calls P g vals.toArray w fun e w'=>∃ u bs,e = .returned u ∧ BelowN w.heap.size w w' ∧ Jy w' (Qak rets y) u bs ∧ bs.Nodup ∧ ∀ c ∈ bs,w.heap.size ≤ c:=by
 unfold QuR at hrun
 obtain ⟨h0,hrun⟩:=Qs hrun
 have hn:=Nat.le_of_ble_eq_true h0
 have hra:=Qvd (P:=P) (fn:=fn) hgl hF hlen hr hle hn
 have hH:=fun k=>Qx1 (P:=P) (gl:=gl) (A:=A) (I:=I) (con:=con) (fn:=fn) (c:=c) (fin:=QwV P fn rets) hcon k
 have hw:=Gt (hH Gy) (QfO hH Gy) c (fun _=>QwV P fn rets) y (fun m x hx=>hx) n _ _ _ w hrun hra
 refine calls_of_wp hf hb (wp_mono hw ?_)
 have fin : ∀ a w',Fam P ⟨w.heap.size,[]⟩ ⟨w,F,gl,hgl⟩ 0 fn.ntmps (fun _ _=>undef) n (fun _=>QwV P fn rets .ret) y a w' → a.defers = [] ∧ ∃ v,(results fn a.tmps).run P w' = .ok v w' ∧ ∃ u bs,Ending.returned v = .returned u ∧ BelowN w.heap.size w w' ∧ Jy w' (Qak rets y) u bs ∧ bs.Nodup ∧ ∀ c ∈ bs,w.heap.size ≤ c:=by
  rintro a w' ⟨m',hm',st',M',h,hk⟩
  refine ⟨h.defers,?_⟩
  obtain ⟨u,bs,k1,k2,k3,k4⟩:=QFH h hk
  exact ⟨u,k1,u,bs,rfl,h.rel.below.toN,k2,k3,fun c hc=>(h.rel.dpi.le (k4 c hc)).nil⟩
 intro e a w' hp
 cases e with
 | normal=>exact fin a w' hp
 | ret=>exact fin a w' hp
 | exit i =>
  obtain ⟨m',_,st',M',_,hk⟩:=hp
  simp only [QwV] at hk
  cases hk
 | goto l=>exact hp.elim
 | panic c=>exact hp.elim
 | outgrown=>exact hp.elim
def Ty.flat : Ty → Bool
 | .int _ | .bool | .str | .unit=>true
 | .pair a b=>a.flat && b.flat
 | _=>false
theorem Qve {F : Snap} : ∀ {t : Ty} {x : t.den} {cs : List Value},t.flat = true → RelD F t x cs → DeepD w t x cs []
 | .int _,_,_,_,h=>⟨h,rfl⟩
 | .bool,_,_,_,h=>⟨h,rfl⟩
 | .str,_,_,_,h=>⟨h,rfl⟩
 | .unit,_,_,_,h=>⟨h,rfl⟩
 | .pair a b,_,_,ht,⟨c1,c2,h,h1,h2⟩=>by
  simp only [Ty.flat,Bool.and_eq_true] at ht
  exact ⟨c1,c2,[],[],h,rfl,Qve ht.1 h1,Qve ht.2 h2⟩
 | .list _,_,_,ht,_=>by cases ht
 | .map _ _,_,_,ht,_=>by cases ht
 | .tree _,_,_,ht,_=>by cases ht
theorem QFI {n0 : Nat} {F' : Snap} {t : Ty} (ht : t.flat = true) {xs : List t.den} {u : Value} {o : Option Reg} (hd : RelD F' (.list t) xs [u]) (hg : EO o u xs.length t.cells) (hF : ∀ a u,F' a = some u → Sees w' a u)
  (ho : ∀ reg,o = some reg → n0 ≤ reg.g ∧ reg.n ≤ reg.cap ∧ reg.cap ≤ maxLen ∧ ∃ cur e',w'.heap[reg.g]? = some (.cells cur e' (0,0)) ∧ cur.size = reg.cap * reg.sz ∧ ∀ ad,ad.block = reg.g → reg.n * reg.sz ≤ ad.off → F' ad = none) :
  ∃ bs,DeepD w' (.list t) xs [u] bs ∧ bs.Nodup ∧ ∀ c ∈ bs,n0 ≤ c:=by
 obtain ⟨a,cap,h1,h2,h3,h4,h5⟩:=hd
 by_cases hx : cap = 0
 ·exact ⟨[],⟨a,cap,h1,h2,h3,h4,.inl ⟨hx,rfl⟩⟩,List.nodup_nil,fun c hc=>by cases hc⟩
 simp only [List.cons.injEq,and_true] at h1
 subst h1
 cases o with
 | none=>obtain ⟨h6,_⟩:=hg; injection h6 with _ _ h6; exact absurd h6 hx
 | some reg =>
  obtain ⟨k,ad,e1,e2,e3,e4,e5⟩:=hg
  obtain ⟨q1,q2,q3,cur,e',q4,q5,q6⟩:=ho reg rfl
  have ec : cap = reg.cap - k:=by injection e1
  have had:=e2 (by omega)
  subst had
  cases e1
  have hif0 : xs.length * t.cells ≤ cur.size:=by rw [q5,e5]; exact Nat.mul_le_mul_right _ (by omega)
  have hall : k * t.cells + (reg.cap - k) * t.cells ≤ cur.size:=by rw [q5,e5,← Nat.add_mul]; exact Nat.mul_le_mul_right _ (by omega)
  refine ⟨[reg.g],⟨_,_,rfl,h2,h3,h4,.inr ⟨reg.g,k * t.cells,cur,e',List.replicate xs.length [],rfl,q4,by simp,by simp,hall,fun i x bi hxi hbi=>?_⟩⟩,by simp,fun c hc=>by rw [List.mem_singleton.1 hc]; exact q1⟩
  have hil : i < xs.length:=(List.getElem?_eq_some_iff.1 hxi).1
  rw [List.getElem?_replicate,if_pos hil] at hbi
  cases hbi
  obtain ⟨_,es,he,hc⟩:=h5 _ rfl i x hxi
  have hel:=he.len
  have hif : i * t.cells + t.cells ≤ xs.length * t.cells:=by rw [← Nat.succ_mul]; exact Nat.mul_le_mul_right _ hil
  have hes : (cur.toList.drop (k * t.cells + i * t.cells)).take t.cells = es:=by
   apply List.ext_getElem?
   intro j
   rw [List.getElem?_take]
   split
   ·rename_i hj
    obtain ⟨v,hv⟩ : ∃ v,es[j]? = some v:=⟨_,List.getElem?_eq_getElem (by omega)⟩
    have hs:=(hF _ _ (hc j v hv)).cell
    rw [VT q4] at hs
    rw [List.getElem?_drop,hv,Array.getElem?_toList]
    exact hs
   ·rw [List.getElem?_eq_none (by omega)]
  rw [hes]
  exact Qve ht he
end
end Go.Ab
