import Derived.Test.YtafopbigcffjgaaGreatAb18
import Derived.Test.YtafopbigcffjgaaGreatAb16d
namespace Go.Ab
structure Ctr where
 g : Nat
 tys : List Ty
 rets : List Ty
 f : ES tys → Option (ER rets)
def QhO : (ts : List Ty) → List V → Option (ES ts)
 | [],[]=>some ()
 | t :: ts,v :: vs=>match Yu t v,QhO ts vs with
  | some x,some y=>some (x,y)
  | _,_=>none
 | _,_=>none
def QqY : List Ctr → Nat → Option Ctr
 | [],_=>none
 | c :: cs,g=>bif Nat.beq c.g g then some c else QqY cs g
def Qk (cs : List Ctr) {R : Type} : Nat → List V → (V → Option R) → Option R:=fun g args K =>
 match QqY cs g with
 | some c=>match QhO c.tys args with
  | some xs=>match c.f xs with
   | some y=>K (UB c.rets y)
   | none=>none
  | none=>none
 | none=>none
def CtrOkG (P : Program) (gl : Nat → Option (List V)) (c : Ctr) : Prop:=∀ xs y,c.f xs = some y → Qts P gl c.g (Qp c.tys xs) (UB c.rets y)
abbrev Qh (P : Program) (c : Ctr) : Prop:=CtrOkG P noG c
theorem CtrOkG.any {P : Program} {c : Ctr} (h : Qh P c) {gl : Nat → Option (List V)} : CtrOkG P gl c:=by
 intro xs y hy
 obtain ⟨h1,h2,h3,h4,h5⟩:=h xs y hy
 refine ⟨fun hlt=>?_,fun hge hlt t ys hv=>?_,fun hge hlt=>?_,h4,fun hge t ys hv=>?_⟩
 ·obtain ⟨a1,a2,a3⟩:=h1 hlt
  exact ⟨a1,a2,fun M w vals _=>a3 M w vals (GlobOk.none _)⟩
 ·obtain ⟨a1,a3⟩:=h2 hge hlt t ys hv
  exact ⟨a1,fun M w vals _=>a3 M w vals (GlobOk.none _)⟩
 ·obtain ⟨a1,a3⟩:=h3 hge hlt
  exact ⟨a1,fun M w vals _=>a3 M w vals (GlobOk.none _)⟩
 ·obtain ⟨a1,a3⟩:=h5 hge t ys hv
  exact ⟨a1,fun M w vals u n o _=>a3 M w vals u n o (GlobOk.none _)⟩
theorem QmU (n : Nat) : ∀ (ts : List Ty) (x : ER ts),V.le.leL n (Vf ts x) = true
 | [],_=>rfl
 | [t],x=>by simp only [Vf,V.le.leL,Bool.and_true]; exact Xm n t x
 | t :: u :: ts,x=>by
  simp only [Vf,V.le.leL,Bool.and_eq_true]
  exact ⟨Xm n t x.1,QmU n (u :: ts) x.2⟩
theorem Qqr (n : Nat) : ∀ (ts : List Ty) (x : ER ts),(UB ts x).le n = true
 | [],_=>rfl
 | [t],x=>Xm n t x
 | t :: u :: ts,x=>QmU n (t :: u :: ts) x
theorem QaK {M : Me} : ∀ {ts : List Ty} {vs : List V} {us : List Value} {xs : ES ts},QhO ts vs = some xs → vs.length = us.length → (∀ (i : Nat) c u,vs[i]? = some c → us[i]? = some u → RelV M c u) →
  (Qp ts xs).length = us.length ∧ ∀ (i : Nat) c u,(Qp ts xs)[i]? = some c → us[i]? = some u → RelV M c u
 | [],[],us,xs,_,hl,_=>⟨hl,fun i c u hc=>by simp [Qp] at hc⟩
 | t :: ts,v :: vs,[],xs,h,hl,hr=>by cases hl
 | t :: ts,v :: vs,u :: us,xs,h,hl,hr=>by
  simp only [QhO] at h
  split at h
  case h_2=>cases h
  rename_i x y hx hy
  cases h
  obtain ⟨k1,k2⟩:=QaK hy (by simpa using hl) (fun i c u hc hu=>hr (i + 1) c u hc hu)
  refine ⟨by simp [Qp,k1],fun i c u' hc hu=>?_⟩
  cases i with
  | zero =>
   simp only [Qp,List.getElem?_cons_zero,Option.some.injEq] at hc hu
   subst hc; subst hu
   exact Vg (Xn hx (hr 0 v u rfl rfl))
  | succ i=>exact k2 i c u' (by simpa [Qp] using hc) (by simpa using hu)
theorem Qn8 : ∀ {cs : List Ctr} {g : Nat} {c : Ctr},QqY cs g = some c → c ∈ cs ∧ c.g = g
 | [],_,_,h=>by cases h
 | c :: cs,g,c',h=>by
  simp only [QqY] at h
  cases hb : Nat.beq c.g g with
  | true =>
   rw [hb] at h
   simp only [cond_true,Option.some.injEq] at h
   subst h
   exact ⟨List.mem_cons_self,Nat.eq_of_beq_eq_true hb⟩
  | false =>
   rw [hb] at h
   obtain ⟨h1,h2⟩:=Qn8 (cs:=cs) h
   exact ⟨List.mem_cons_of_mem _ h1,h2⟩
theorem Qfa {t : Ty} {x : t.den} {t' : Ty} {y : t'.den} (h : Vq t (.d t' y) = some x) : V.d t' y = .d t x:=by
 have key : cast? t' t y = some x:=by
  cases t <;> exact h
 unfold cast? at key
 split at key
 ·rename_i e _
  subst e
  simp only [Option.some.injEq] at key
  subst key
  rfl
 ·cases key
theorem QaL {t : Ty} {x : t.den} {v : V} (h : Vq t v = some x) (hv : v.dok1 = true) : t.dok = true:=by
 cases v with
 | d t' y =>
  have:=Qfa h
  cases this
  exact hv
 | _=>simp [V.dok1] at hv
theorem QhP : ∀ {t : Ty} {x : t.den} {vs : List V},Je t vs = some x → vs.all V.dok1 = true → t.dok = true
 | .pair a b,x,vs,h,hv=>by
  simp only [Je] at h
  split at h
  ·rename_i y z hy hz
   have h1:=List.all_eq_true.1 hv
   simp only [Ty.dok,Bool.and_eq_true]
   exact ⟨QhP hy (List.all_eq_true.2 fun c hc=>h1 c (List.mem_of_mem_take hc)),QhP hz (List.all_eq_true.2 fun c hc=>h1 c (List.mem_of_mem_drop hc))⟩
  ·cases h
 | .unit,_,_,_,_=>rfl
 | .int _,_,_,_,_=>rfl
 | .bool,_,_,_,_=>rfl
 | .str,_,_,_,_=>rfl
 | .list t,x,[],h,_=>by simp [Je] at h
 | .list t,x,[v],h,hv=>QaL (t:=.list t) (by simpa [Je] using h) (by simpa using hv)
 | .list t,x,_ :: _ :: _,h,_=>by simp [Je] at h
 | .map k e,x,[],h,_=>by simp [Je] at h
 | .map k e,x,[v],h,hv=>QaL (t:=.map k e) (by simpa [Je] using h) (by simpa using hv)
 | .map k e,x,_ :: _ :: _,h,_=>by simp [Je] at h
 | .tree a,x,vs,h,hv=>by
  simp only [Je] at h
  split at h
  ·rename_i v k hv' hk
   rw [Option.map_eq_some_iff] at h
   obtain ⟨ks,hks,rfl⟩:=h
   have hm : k ∈ vs.drop a.cells:=by rw [hk]; simp
   have:=QaL hks (List.all_eq_true.1 hv k (List.mem_of_mem_drop hm))
   exact this
  ·cases h
theorem Qrw {t : Ty} {x : t.den} {v : V} (h : Yu t v = some x) (hv : v.dokV = true) : t.dok = true:=by
 cases t with
 | pair a b =>
  cases v <;> first
   | (simp [Yu] at h; done)
   | exact QhP h hv
 | unit=>rfl
 | tree a =>
  cases v <;> first
   | (simp [Yu] at h; done)
   | exact QhP h hv
 | map k e =>
  refine QaL (v:=v) (by simpa [Yu] using h) ?_
  cases v <;> first | exact hv | (simp [Yu,Vq] at h)
 | list t =>
  refine QaL (v:=v) (by simpa [Yu] using h) ?_
  cases v <;> first | exact hv | (simp [Yu,Vq] at h)
 | int k=>rfl
 | bool=>rfl
 | str=>rfl
theorem Qsp {P : Program} {g : Nat} {v : V} {k k' : Int} {b : V} : ∀ {tys : List Ty} {xs : ES tys} {x : V},QhO tys [x,.d (.int .i64) k] = some xs → v = .tup [.d (.int .i64) k',b] → QtG P g (Qp tys xs) v →
  Z8 P g = true ∧ ∀ (w : World) (u : Value) (bs : List Nat),x.dokV = true → Zh w x u bs → bs.Nodup → inK .i64 k = true →
   Calls P g #[u,.int .i64 k] w fun e w'=>e = .returned (.int .i64 k') ∧ inK .i64 k' = true ∧ Zh w' b u bs ∧ BelowX bs w w'
 | [],_,_,h,_,_=>by simp [QhO] at h
 | [_],_,_,h,_,_=>by simp [QhO] at h
 | _ :: _ :: _ :: _,_,_,h,_,_=>by simp [QhO] at h
 | [t1,t2],xs,x,h,hv,hA=>by
  simp only [QhO] at h
  split at h
  case h_2=>cases h
  rename_i x0 z hx0 hz
  cases h
  split at hz
  case h_2=>cases hz
  rename_i k0 q hk0 hq
  cases hz
  have hk : YW t2 k0 = .d (.int .i64) k:=by
   cases t2 with
   | pair a b=>simp [Yu] at hk0
   | unit=>simp [Yu] at hk0
   | tree a=>simp [Yu] at hk0
   | int kk=>exact (Qfa (t:=.int kk) (t':=.int .i64) (y:=k) hk0).symm
   | bool=>exact (Qfa (t:=.bool) (t':=.int .i64) (y:=k) hk0).symm
   | str=>exact (Qfa (t:=.str) (t':=.int .i64) (y:=k) hk0).symm
   | list t=>exact (Qfa (t:=.list t) (t':=.int .i64) (y:=k) hk0).symm
   | map a b=>exact (Qfa (t:=.map a b) (t':=.int .i64) (y:=k) hk0).symm
  have ha : Qp [t1,t2] (x0,(k0,q)) = [YW t1 x0,.d (.int .i64) k]:=by simp only [Qp,hk]
  obtain ⟨h1,h2⟩:=hA (YW t1 x0) k k' b ha hv
  refine ⟨h1,fun w u bs hdk hd hn hik=>?_⟩
  have hdok:=Qrw hx0 hdk
  refine h2 w u bs ?_ (QdR (QbS hdok hx0 hd)) hn hik
  clear h2 hd hdk hA ha hx0
  have ex : ∀ (t : Ty) (x : t.den),t.dok = true → (Qm t x).all V.dok1 = true:=by
   intro t
   induction t with
   | int k=>intro x _; rfl
   | bool=>intro x _; rfl
   | str=>intro x _; rfl
   | unit=>intro x _; rfl
   | list t _=>intro x h; simp [Qm,V.dok1,h]
   | map k e _ _=>intro x h; cases h
   | tree a _=>intro x h; cases h
   | pair a b iha ihb =>
    intro x h
    simp only [Ty.dok,Bool.and_eq_true] at h
    simp only [Qm,List.all_append,Bool.and_eq_true]
    exact ⟨iha x.1 h.1,ihb x.2 h.2⟩
  cases t1 with
  | pair a b=>exact ex _ x0 hdok
  | unit=>rfl
  | tree a=>cases hdok
  | map k e=>cases hdok
  | list t=>exact hdok
  | int k=>rfl
  | bool=>rfl
  | str=>rfl
theorem QhQ : QC ≤ ZI ∧ Q9 ≤ ZI ∧ Yj ≤ ZI:=by
 unfold QC Q9 Yj ZI
 omega
theorem XF : QC ≤ Q9 ∧ QC ≤ Yj ∧ Q9 ≤ Yj:=by
 unfold QC Q9 Yj
 omega
theorem QhR {P : Program} {gl : Nat → Option (List V)} {cs : List Ctr} (h : ∀ c ∈ cs,CtrOkG P gl c) {R : Type} : QhI P gl (R:=R) (Qk cs):=by
 intro g args K r hc
 unfold Qk at hc
 split at hc
 case h_2=>cases hc
 rename_i c hf
 split at hc
 case h_2=>cases hc
 rename_i xs hxs
 split at hc
 case h_2=>cases hc
 rename_i y hy
 obtain ⟨hm,hg⟩:=Qn8 hf
 subst hg
 refine ⟨_,hc,fun hlt=>?_,fun hge hlt t ys hv=>?_,fun hge hlt=>?_,fun hge hlt x k k' b ha hv=>?_,fun hge t ys hv=>?_⟩
 ·obtain ⟨a1,a2,a3⟩:=(h c hm xs y hy).1 hlt
  refine ⟨a1,a2,fun M w vals hG hF hl hr=>?_⟩
  obtain ⟨k1,k2⟩:=QaK hxs hl hr
  exact a3 M w vals hG hF k1 k2
 ·obtain ⟨a1,a3⟩:=(h c hm xs y hy).2.1 hge hlt t ys hv
  refine ⟨a1,fun M w vals hG hF hl hr=>?_⟩
  obtain ⟨k1,k2⟩:=QaK hxs hl hr
  exact a3 M w vals hG hF k1 k2
 ·obtain ⟨a1,a3⟩:=(h c hm xs y hy).2.2.1 hge hlt
  refine ⟨a1,fun M w vals hG hF hl hr=>?_⟩
  obtain ⟨k1,k2⟩:=QaK hxs hl hr
  exact a3 M w vals hG hF k1 k2
 ·subst ha; exact Qsp hxs hv ((h c hm xs y hy).2.2.2.1 hge hlt)
 ·obtain ⟨a1,a3⟩:=(h c hm xs y hy).2.2.2.2 hge t ys hv
  refine ⟨a1,fun M w vals u n o hG hF hl hr=>?_⟩
  obtain ⟨k1,k2⟩:=QaK hxs hl hr
  exact a3 M w vals u n o hG hF k1 k2
theorem Qj {P : Program} {gl : Nat → Option (List V)} : ∀ c ∈ ([] : List Ctr),CtrOkG P gl c:=fun c h=>by cases h
theorem Qd {P : Program} {gl : Nat → Option (List V)} {c : Ctr} {cs : List Ctr} (h : CtrOkG P gl c) (hs : ∀ c ∈ cs,CtrOkG P gl c) : ∀ x ∈ c :: cs,CtrOkG P gl x:=by
 intro x hx
 rcases List.mem_cons.1 hx with rfl | hx
 ·exact h
 ·exact hs x hx
theorem QaM : ∀ (t : Ty) (x : t.den),∀ c ∈ Qm t x,∃ (t' : Ty) (x' : t'.den),c = .d t' x'
 | .pair a b,x,c,hc=>by
  rcases List.mem_append.1 hc with hc | hc
  ·exact QaM a x.1 c hc
  ·exact QaM b x.2 c hc
 | .unit,_,c,hc=>by cases hc
 | .int k,x,c,hc=>by rw [List.mem_singleton.1 hc]; exact ⟨_,_,rfl⟩
 | .bool,x,c,hc=>by rw [List.mem_singleton.1 hc]; exact ⟨_,_,rfl⟩
 | .str,x,c,hc=>by rw [List.mem_singleton.1 hc]; exact ⟨_,_,rfl⟩
 | .list t,x,c,hc=>by rw [List.mem_singleton.1 hc]; exact ⟨_,_,rfl⟩
 | .map k e,x,c,hc=>by rw [List.mem_singleton.1 hc]; exact ⟨_,_,rfl⟩
 | .tree a,x,c,hc=>by
  rcases List.mem_append.1 hc with hc | hc
  ·exact QaM a x.val c hc
  ·rw [List.mem_singleton.1 hc]; exact ⟨_,_,rfl⟩
theorem d_F {M M' : Me} (hF : M'.F = M.F) {t : Ty} {x : t.den} {u : Value} (h : RelV M (.d t x) u) : RelV M' (.d t x) u:=by
 cases h with
 | d _ _ _ hd=>exact .d _ _ _ (by rw [hF]; exact hd)
theorem QmV {M M' : Me} (hF : M'.F = M.F) {t : Ty} {x : t.den} {u : Value} (h : RelV M (YW t x) u) : RelV M' (YW t x) u:=by
 have agg : ∀ cs,(∀ c ∈ cs,∃ (t' : Ty) (x' : t'.den),c = .d t' x') → RelV M (.agg cs) u → RelV M' (.agg cs) u:=by
  intro cs hcs h
  cases h with
  | agg _ arr hl hr h1 =>
   refine .agg _ arr hl (fun i c u hc hu=>?_) h1
   obtain ⟨t',x',rfl⟩:=hcs c (List.mem_of_getElem? hc)
   exact d_F hF (hr i _ u hc hu)
 cases t with
 | pair a b=>exact agg _ (QaM (.pair a b) x) h
 | unit=>exact agg _ (fun c hc=>by cases hc) h
 | int k=>exact d_F hF h
 | bool=>exact d_F hF h
 | str=>exact d_F hF h
 | list t=>exact d_F hF h
 | map k e=>exact d_F hF h
 | tree a=>exact agg _ (QaM (.tree a) x) h
theorem WT : ∀ (ts : List Ty) (xs : ES ts),∀ c ∈ Qp ts xs,∃ (t : Ty) (x : t.den),c = YW t x
 | [],_,c,hc=>by cases hc
 | t :: ts,x,c,hc=>by
  rcases List.mem_cons.1 hc with rfl | hc
  ·exact ⟨t,x.1,rfl⟩
  ·exact WT ts x.2 c hc
theorem Qi {P : Program} {gl : Nat → Option (List V)} {c : Ctr} (hlt : Nat.blt c.g QC = true) {fn : Func} {code : Code} (hf : P.funcs[c.g]? = some fn) (hb : fn.body = some code) (he : Z8 P c.g = true) (hres : c.rets.length = fn.results.size) {A : List (List Nat × Ann)} {I : List (List Nat × Nat)} {cs : List Ctr}
  (hcs : ∀ x ∈ cs,CtrOkG P gl x) (hrun : ∀ xs y,c.f xs = some y → ∃ n,Qjk P gl A I (Qk cs) fn code (QrU P fn (Ql c.rets)) n (Qp c.tys xs) = some y) : CtrOkG P gl c:=by
 intro xs y hy
 obtain ⟨n,hn⟩:=hrun xs y hy
 have hlt:=HK hlt
 have hnl : ∀ {m : Nat},QC ≤ m → m ≤ c.g → False:=fun h1 h2=>Nat.lt_irrefl _ (Nat.lt_of_lt_of_le hlt (Nat.le_trans h1 h2))
 refine ⟨fun _=>?_,fun hge=>(hnl (Nat.le_refl _) hge).elim,fun hge=>(hnl XF.1 hge).elim,fun hge _=>(hnl XF.2.1 hge).elim,fun hge=>(hnl QhQ.1 hge).elim⟩
 refine ⟨he,fun n=>Qqr n _ _,fun M w vals hG hF hl hr=>?_⟩
 refine (Qn6 hf hb (QhR hcs) hres hn (F:=M.F) hG hF hl ?_ (Qd0 0 _ _)).mono fun e w' ⟨u,F',h1,h2,h3,h4,h5⟩=>⟨u,F',h1,h2,h3,h4,h5 _ (Snap.le.refl _)⟩
 intro i c' u hc hu M' hM'
 obtain ⟨t,x,rfl⟩:=WT _ _ c' (List.mem_of_getElem? hc)
 exact QmV hM' (hr i _ u hc hu)
def QhS (g : Nat) (tys : List Ty) (t : Ty) (f : ES tys → Option (List t.den)) : Ctr:=⟨g + QC,tys,[.list t],f⟩
def Eg (g : Nat) (tys rets : List Ty) (f : ES tys → Option (ER rets)) : Ctr:=⟨g + Q9,tys,rets,f⟩
theorem Xq {P : Program} {gl : Nat → Option (List V)} {g : Nat} {tys rets : List Ty} {f : ES tys → Option (ER rets)} (hlt : Nat.blt g QC = true) {fn : Func} {code : Code} (hf : P.funcs[g]? = some fn) (hb : fn.body = some code) (he : Z8 P g = true) {A : List (List Nat × Ann)} {I : List (List Nat × Nat)} {cs : List Ctr}
  (hcs : ∀ x ∈ cs,CtrOkG P gl x) (hrun : ∀ xs y,f xs = some y → ∃ n,Qjk P gl A I (Qk cs) fn code (Qdo P fn rets) n (Qp tys xs) = some y) : CtrOkG P gl (Eg g tys rets f):=by
 intro xs y hy
 obtain ⟨n,hn⟩:=hrun xs y hy
 obtain ⟨m1,m2⟩:=QaG (HK hlt)
 have hg : (Eg g tys rets f).g = g + Q9:=rfl
 have hge : Q9 ≤ g + Q9:=Nat.le_add_left _ _
 rw [hg]
 refine ⟨fun h1=>(Nat.lt_irrefl _ (Nat.lt_of_lt_of_le h1 (Nat.le_trans XF.1 hge))).elim,fun _ h1=>(Nat.lt_irrefl _ (Nat.lt_of_lt_of_le h1 hge)).elim,fun _ _=>?_,fun h1 _=>(Nat.lt_irrefl _ (Nat.lt_of_lt_of_le m2 h1)).elim,fun h1=>(Nat.lt_irrefl _ (Nat.lt_of_lt_of_le m2 (Nat.le_trans QhQ.2.2 h1))).elim⟩
 rw [Nat.add_sub_cancel]
 refine ⟨he,fun M w vals hG hF hl hr=>?_⟩
 refine Qqp hf hb (QhR hcs) hn (F:=M.F) hG hF hl ?_ (Qd0 0 _ _)
 intro i c' u hc hu M' hM'
 obtain ⟨t,x,rfl⟩:=WT _ _ c' (List.mem_of_getElem? hc)
 exact QmV hM' (hr i _ u hc hu)
theorem QpE {P : Program} {gl : Nat → Option (List V)} {g : Nat} {tys : List Ty} {t : Ty} {f : ES tys → Option (List t.den)} (hlt : Nat.blt g QC = true) (ht : t.flat = true) (h : CtrOkG P gl (QhS g tys t f)) : CtrOkG P gl (Eg g tys [.list t] f):=by
 intro xs y hy
 obtain ⟨m1,m2⟩:=QaG (HK hlt)
 have hg : (Eg g tys [.list t] f).g = g + Q9:=rfl
 have hge : Q9 ≤ g + Q9:=Nat.le_add_left _ _
 rw [hg]
 refine ⟨fun h1=>(Nat.lt_irrefl _ (Nat.lt_of_lt_of_le h1 (Nat.le_trans XF.1 hge))).elim,fun _ h1=>(Nat.lt_irrefl _ (Nat.lt_of_lt_of_le h1 hge)).elim,fun _ _=>?_,fun h1 _=>(Nat.lt_irrefl _ (Nat.lt_of_lt_of_le m2 h1)).elim,fun h1=>(Nat.lt_irrefl _ (Nat.lt_of_lt_of_le m2 (Nat.le_trans QhQ.2.2 h1))).elim⟩
 rw [Nat.add_sub_cancel]
 have h0:=(h xs y hy).2.1 (Nat.le_add_left _ _) m1 t y rfl
 rw [show (QhS g tys t f).g - QC = g from Nat.add_sub_cancel _ _] at h0
 obtain ⟨he,h0⟩:=h0
 refine ⟨he,fun M w vals hG hF hl hr=>(h0 M w vals hG hF hl hr).mono fun e w'=>?_⟩
 rintro ⟨u,F',o,rfl,q1,q2,q3,q4,q5,q6⟩
 obtain ⟨bs,k1,k2,k3⟩:=Qsn (n0:=w.heap.size) (w':=w') ht q4 q5 (fun ad v hv=>by
  rcases q2 ad v hv with h1 | h1
  ·exact (hF ad v h1).block (q3.block _ (hF ad v h1).lt)
  ·exact h1.1) q6
 exact ⟨u,bs,rfl,q3,k1,k2,k3⟩
def QqZ (g : Nat) (t : Ty) (f : ES [t,.int .i64] → Option (ER [.int .i64,t])) : Ctr:=⟨g + Yj,[t,.int .i64],[.int .i64,t],f⟩
end Go.Ab
