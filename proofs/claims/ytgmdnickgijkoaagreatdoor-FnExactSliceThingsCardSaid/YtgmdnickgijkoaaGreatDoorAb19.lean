import Derived.Test.YtgmdnickgijkoaaGreatDoorAb18
import Derived.Test.YtgmdnickgijkoaaGreatDoorAb16d
namespace Go.Ab
structure Ctr where
 g : Nat
 tys : List Ty
 rets : List Ty
 f : Qny tys → Option (QhP rets)
def QuB : (ts : List Ty) → List V → Option (Qny ts)
 | [],[]=>some ()
 | t :: ts,v :: vs=>match Xr t v,QuB ts vs with
  | some x,some y=>some (x,y)
  | _,_=>none
 | _,_=>none
def QGr : List Ctr → Nat → Option Ctr
 | [],_=>none
 | c :: cs,g=>bif Nat.beq c.g g then some c else QGr cs g
def Qn (cs : List Ctr) {R : Type} : Nat → List V → (V → Option R) → Option R:=fun g args K =>
 match QGr cs g with
 | some c=>match QuB c.tys args with
  | some xs=>match c.f xs with
   | some y=>K (QdW c.rets y)
   | none=>none
  | none=>none
 | none=>none
def CtrOkG (P : Program) (gl : Nat → Option (List V)) (c : Ctr) : Prop:=∀ xs y,c.f xs = some y → QI5 P gl c.g (Qt c.tys xs) (QdW c.rets y)
abbrev Qh (P : Program) (c : Ctr) : Prop:=CtrOkG P noG c
theorem CtrOkG.any {P : Program} {c : Ctr} (h : Qh P c) {gl : Nat → Option (List V)} : CtrOkG P gl c:=by
 intro xs y hy
 obtain ⟨h1,h2,h3,h4⟩:=h xs y hy
 refine ⟨fun hlt=>?_,fun hge hlt t ys hv=>?_,fun hge hlt=>?_,h4⟩
 ·obtain ⟨a1,a2,a3⟩:=h1 hlt
  exact ⟨a1,a2,fun M w vals _=>a3 M w vals (GlobOk.none _)⟩
 ·obtain ⟨a1,a3⟩:=h2 hge hlt t ys hv
  exact ⟨a1,fun M w vals _=>a3 M w vals (GlobOk.none _)⟩
 ·obtain ⟨a1,a3⟩:=h3 hge hlt
  exact ⟨a1,fun M w vals _=>a3 M w vals (GlobOk.none _)⟩
theorem QBq (n : Nat) : ∀ (ts : List Ty) (x : QhP ts),V.le.leL n (Hy ts x) = true
 | [],_=>rfl
 | [t],x=>by simp only [Hy,V.le.leL,Bool.and_true]; exact QaJ n t x
 | t :: u :: ts,x=>by
  simp only [Hy,V.le.leL,Bool.and_eq_true]
  exact ⟨QaJ n t x.1,QBq n (u :: ts) x.2⟩
theorem QFM (n : Nat) : ∀ (ts : List Ty) (x : QhP ts),(QdW ts x).le n = true
 | [],_=>rfl
 | [t],x=>QaJ n t x
 | t :: u :: ts,x=>QBq n (t :: u :: ts) x
theorem QqA {M : Me} : ∀ {ts : List Ty} {vs : List V} {us : List Value} {xs : Qny ts},QuB ts vs = some xs → vs.length = us.length → (∀ (i : Nat) c u,vs[i]? = some c → us[i]? = some u → RelV M c u) →
  (Qt ts xs).length = us.length ∧ ∀ (i : Nat) c u,(Qt ts xs)[i]? = some c → us[i]? = some u → RelV M c u
 | [],[],us,xs,_,hl,_=>⟨hl,fun i c u hc=>by simp [Qt] at hc⟩
 | t :: ts,v :: vs,[],xs,h,hl,hr=>by cases hl
 | t :: ts,v :: vs,u :: us,xs,h,hl,hr=>by
  simp only [QuB] at h
  split at h
  case h_2=>cases h
  rename_i x y hx hy
  cases h
  obtain ⟨k1,k2⟩:=QqA hy (by simpa using hl) (fun i c u hc hu=>hr (i + 1) c u hc hu)
  refine ⟨by simp [Qt,k1],fun i c u' hc hu=>?_⟩
  cases i with
  | zero =>
   simp only [Qt,List.getElem?_cons_zero,Option.some.injEq] at hc hu
   subst hc; subst hu
   exact E3 (QaK hx (hr 0 v u rfl rfl))
  | succ i=>exact k2 i c u' (by simpa [Qt] using hc) (by simpa using hu)
theorem QC8 : ∀ {cs : List Ctr} {g : Nat} {c : Ctr},QGr cs g = some c → c ∈ cs ∧ c.g = g
 | [],_,_,h=>by cases h
 | c :: cs,g,c',h=>by
  simp only [QGr] at h
  cases hb : Nat.beq c.g g with
  | true =>
   rw [hb] at h
   simp only [cond_true,Option.some.injEq] at h
   subst h
   exact ⟨List.mem_cons_self,Nat.eq_of_beq_eq_true hb⟩
  | false =>
   rw [hb] at h
   obtain ⟨h1,h2⟩:=QC8 (cs:=cs) h
   exact ⟨List.mem_cons_of_mem _ h1,h2⟩
theorem QqB {t : Ty} {x : t.den} {t' : Ty} {y : t'.den} (h : HP t (.d t' y) = some x) : V.d t' y = .d t x:=by
 have key : cast? t' t y = some x:=by
  cases t <;> exact h
 unfold cast? at key
 split at key
 ·rename_i e _
  subst e
  simp only [Option.some.injEq] at key
  subst key
  rfl
 ·cases key
theorem Qjf {t : Ty} {x : t.den} {v : V} (h : HP t v = some x) (hv : v.dok1 = true) : t.dok = true:=by
 cases v with
 | d t' y =>
  have:=QqB h
  cases this
  exact hv
 | _=>simp [V.dok1] at hv
theorem QuC : ∀ {t : Ty} {x : t.den} {vs : List V},Vk t vs = some x → vs.all V.dok1 = true → t.dok = true
 | .pair a b,x,vs,h,hv=>by
  simp only [Vk] at h
  split at h
  ·rename_i y z hy hz
   have h1:=List.all_eq_true.1 hv
   simp only [Ty.dok,Bool.and_eq_true]
   exact ⟨QuC hy (List.all_eq_true.2 fun c hc=>h1 c (List.mem_of_mem_take hc)),QuC hz (List.all_eq_true.2 fun c hc=>h1 c (List.mem_of_mem_drop hc))⟩
  ·cases h
 | .unit,_,_,_,_=>rfl
 | .int _,_,_,_,_=>rfl
 | .bool,_,_,_,_=>rfl
 | .str,_,_,_,_=>rfl
 | .list t,x,[],h,_=>by simp [Vk] at h
 | .list t,x,[v],h,hv=>Qjf (t:=.list t) (by simpa [Vk] using h) (by simpa using hv)
 | .list t,x,_ :: _ :: _,h,_=>by simp [Vk] at h
 | .map k e,x,[],h,_=>by simp [Vk] at h
 | .map k e,x,[v],h,hv=>Qjf (t:=.map k e) (by simpa [Vk] using h) (by simpa using hv)
 | .map k e,x,_ :: _ :: _,h,_=>by simp [Vk] at h
 | .tree a,x,vs,h,hv=>by
  simp only [Vk] at h
  split at h
  ·rename_i v k hv' hk
   rw [Option.map_eq_some_iff] at h
   obtain ⟨ks,hks,rfl⟩:=h
   have hm : k ∈ vs.drop a.cells:=by rw [hk]; simp
   have:=Qjf hks (List.all_eq_true.1 hv k (List.mem_of_mem_drop hm))
   exact this
  ·cases h
theorem QG3 {t : Ty} {x : t.den} {v : V} (h : Xr t v = some x) (hv : v.dokV = true) : t.dok = true:=by
 cases t with
 | pair a b =>
  cases v <;> first
   | (simp [Xr] at h; done)
   | exact QuC h hv
 | unit=>rfl
 | tree a =>
  cases v <;> first
   | (simp [Xr] at h; done)
   | exact QuC h hv
 | map k e =>
  refine Qjf (v:=v) (by simpa [Xr] using h) ?_
  cases v <;> first | exact hv | (simp [Xr,HP] at h)
 | list t =>
  refine Qjf (v:=v) (by simpa [Xr] using h) ?_
  cases v <;> first | exact hv | (simp [Xr,HP] at h)
 | int k=>rfl
 | bool=>rfl
 | str=>rfl
theorem QHW {P : Program} {g : Nat} {v : V} {k k' : Int} {b : V} : ∀ {tys : List Ty} {xs : Qny tys} {x : V},QuB tys [x,.d (.int .i64) k] = some xs → v = .tup [.d (.int .i64) k',b] → QI4 P g (Qt tys xs) v →
  Gg P g = true ∧ ∀ (w : World) (u : Value) (bs : List Nat),x.dokV = true → Jm w x u bs → bs.Nodup → inK .i64 k = true →
   Calls P g #[u,.int .i64 k] w fun e w'=>e = .returned (.int .i64 k') ∧ inK .i64 k' = true ∧ Jm w' b u bs ∧ BelowX bs w w'
 | [],_,_,h,_,_=>by simp [QuB] at h
 | [_],_,_,h,_,_=>by simp [QuB] at h
 | _ :: _ :: _ :: _,_,_,h,_,_=>by simp [QuB] at h
 | [t1,t2],xs,x,h,hv,hA=>by
  simp only [QuB] at h
  split at h
  case h_2=>cases h
  rename_i x0 z hx0 hz
  cases h
  split at hz
  case h_2=>cases hz
  rename_i k0 q hk0 hq
  cases hz
  have hk : X2 t2 k0 = .d (.int .i64) k:=by
   cases t2 with
   | pair a b=>simp [Xr] at hk0
   | unit=>simp [Xr] at hk0
   | tree a=>simp [Xr] at hk0
   | int kk=>exact (QqB (t:=.int kk) (t':=.int .i64) (y:=k) hk0).symm
   | bool=>exact (QqB (t:=.bool) (t':=.int .i64) (y:=k) hk0).symm
   | str=>exact (QqB (t:=.str) (t':=.int .i64) (y:=k) hk0).symm
   | list t=>exact (QqB (t:=.list t) (t':=.int .i64) (y:=k) hk0).symm
   | map a b=>exact (QqB (t:=.map a b) (t':=.int .i64) (y:=k) hk0).symm
  have ha : Qt [t1,t2] (x0,(k0,q)) = [X2 t1 x0,.d (.int .i64) k]:=by simp only [Qt,hk]
  obtain ⟨h1,h2⟩:=hA (X2 t1 x0) k k' b ha hv
  refine ⟨h1,fun w u bs hdk hd hn hik=>?_⟩
  have hdok:=QG3 hx0 hdk
  refine h2 w u bs ?_ (Qou (Qk7 hdok hx0 hd)) hn hik
  clear h2 hd hdk hA ha hx0
  have ex : ∀ (t : Ty) (x : t.den),t.dok = true → (Qq t x).all V.dok1 = true:=by
   intro t
   induction t with
   | int k=>intro x _; rfl
   | bool=>intro x _; rfl
   | str=>intro x _; rfl
   | unit=>intro x _; rfl
   | list t _=>intro x h; simp [Qq,V.dok1,h]
   | map k e _ _=>intro x h; cases h
   | tree a _=>intro x h; cases h
   | pair a b iha ihb =>
    intro x h
    simp only [Ty.dok,Bool.and_eq_true] at h
    simp only [Qq,List.all_append,Bool.and_eq_true]
    exact ⟨iha x.1 h.1,ihb x.2 h.2⟩
  cases t1 with
  | pair a b=>exact ex _ x0 hdok
  | unit=>rfl
  | tree a=>cases hdok
  | map k e=>cases hdok
  | list t=>exact hdok
  | int k=>rfl
  | bool=>rfl
  | str=>rfl
theorem Qgr : Jl ≤ JI ∧ Jl ≤ Wd ∧ JI ≤ Wd:=by
 unfold Jl JI Wd
 omega
theorem QuD {P : Program} {gl : Nat → Option (List V)} {cs : List Ctr} (h : ∀ c ∈ cs,CtrOkG P gl c) {R : Type} : QyH P gl (R:=R) (Qn cs):=by
 intro g args K r hc
 unfold Qn at hc
 split at hc
 case h_2=>cases hc
 rename_i c hf
 split at hc
 case h_2=>cases hc
 rename_i xs hxs
 split at hc
 case h_2=>cases hc
 rename_i y hy
 obtain ⟨hm,hg⟩:=QC8 hf
 subst hg
 refine ⟨_,hc,fun hlt=>?_,fun hge hlt t ys hv=>?_,fun hge hlt=>?_,fun hge x k k' b ha hv=>?_⟩
 ·obtain ⟨a1,a2,a3⟩:=(h c hm xs y hy).1 hlt
  refine ⟨a1,a2,fun M w vals hG hF hl hr=>?_⟩
  obtain ⟨k1,k2⟩:=QqA hxs hl hr
  exact a3 M w vals hG hF k1 k2
 ·obtain ⟨a1,a3⟩:=(h c hm xs y hy).2.1 hge hlt t ys hv
  refine ⟨a1,fun M w vals hG hF hl hr=>?_⟩
  obtain ⟨k1,k2⟩:=QqA hxs hl hr
  exact a3 M w vals hG hF k1 k2
 ·obtain ⟨a1,a3⟩:=(h c hm xs y hy).2.2.1 hge hlt
  refine ⟨a1,fun M w vals hG hF hl hr=>?_⟩
  obtain ⟨k1,k2⟩:=QqA hxs hl hr
  exact a3 M w vals hG hF k1 k2
 ·subst ha; exact QHW hxs hv ((h c hm xs y hy).2.2.2 hge)
theorem Qk {P : Program} {gl : Nat → Option (List V)} : ∀ c ∈ ([] : List Ctr),CtrOkG P gl c:=fun c h=>by cases h
theorem Qd {P : Program} {gl : Nat → Option (List V)} {c : Ctr} {cs : List Ctr} (h : CtrOkG P gl c) (hs : ∀ c ∈ cs,CtrOkG P gl c) : ∀ x ∈ c :: cs,CtrOkG P gl x:=by
 intro x hx
 rcases List.mem_cons.1 hx with rfl | hx
 ·exact h
 ·exact hs x hx
theorem Qjg : ∀ (t : Ty) (x : t.den),∀ c ∈ Qq t x,∃ (t' : Ty) (x' : t'.den),c = .d t' x'
 | .pair a b,x,c,hc=>by
  rcases List.mem_append.1 hc with hc | hc
  ·exact Qjg a x.1 c hc
  ·exact Qjg b x.2 c hc
 | .unit,_,c,hc=>by cases hc
 | .int k,x,c,hc=>by rw [List.mem_singleton.1 hc]; exact ⟨_,_,rfl⟩
 | .bool,x,c,hc=>by rw [List.mem_singleton.1 hc]; exact ⟨_,_,rfl⟩
 | .str,x,c,hc=>by rw [List.mem_singleton.1 hc]; exact ⟨_,_,rfl⟩
 | .list t,x,c,hc=>by rw [List.mem_singleton.1 hc]; exact ⟨_,_,rfl⟩
 | .map k e,x,c,hc=>by rw [List.mem_singleton.1 hc]; exact ⟨_,_,rfl⟩
 | .tree a,x,c,hc=>by
  rcases List.mem_append.1 hc with hc | hc
  ·exact Qjg a x.val c hc
  ·rw [List.mem_singleton.1 hc]; exact ⟨_,_,rfl⟩
theorem d_F {M M' : Me} (hF : M'.F = M.F) {t : Ty} {x : t.den} {u : Value} (h : RelV M (.d t x) u) : RelV M' (.d t x) u:=by
 cases h with
 | d _ _ _ hd=>exact .d _ _ _ (by rw [hF]; exact hd)
theorem QBr {M M' : Me} (hF : M'.F = M.F) {t : Ty} {x : t.den} {u : Value} (h : RelV M (X2 t x) u) : RelV M' (X2 t x) u:=by
 have agg : ∀ cs,(∀ c ∈ cs,∃ (t' : Ty) (x' : t'.den),c = .d t' x') → RelV M (.agg cs) u → RelV M' (.agg cs) u:=by
  intro cs hcs h
  cases h with
  | agg _ arr hl hr h1 =>
   refine .agg _ arr hl (fun i c u hc hu=>?_) h1
   obtain ⟨t',x',rfl⟩:=hcs c (List.mem_of_getElem? hc)
   exact d_F hF (hr i _ u hc hu)
 cases t with
 | pair a b=>exact agg _ (Qjg (.pair a b) x) h
 | unit=>exact agg _ (fun c hc=>by cases hc) h
 | int k=>exact d_F hF h
 | bool=>exact d_F hF h
 | str=>exact d_F hF h
 | list t=>exact d_F hF h
 | map k e=>exact d_F hF h
 | tree a=>exact agg _ (Qjg (.tree a) x) h
theorem Qf1 : ∀ (ts : List Ty) (xs : Qny ts),∀ c ∈ Qt ts xs,∃ (t : Ty) (x : t.den),c = X2 t x
 | [],_,c,hc=>by cases hc
 | t :: ts,x,c,hc=>by
  rcases List.mem_cons.1 hc with rfl | hc
  ·exact ⟨t,x.1,rfl⟩
  ·exact Qf1 ts x.2 c hc
theorem Qj {P : Program} {gl : Nat → Option (List V)} {c : Ctr} (hlt : Nat.blt c.g Jl = true) {fn : Func} {code : Code} (hf : P.funcs[c.g]? = some fn) (hb : fn.body = some code) (he : Gg P c.g = true) (hres : c.rets.length = fn.results.size) {A : List (List Nat × Ann)} {I : List (List Nat × Nat)} {cs : List Ctr}
  (hcs : ∀ x ∈ cs,CtrOkG P gl x) (hrun : ∀ xs y,c.f xs = some y → ∃ n,WV P gl A I (Qn cs) fn code (QfX P fn (Qp c.rets)) n (Qt c.tys xs) = some y) : CtrOkG P gl c:=by
 intro xs y hy
 obtain ⟨n,hn⟩:=hrun xs y hy
 have hlt:=Qla hlt
 have hnl : ∀ {m : Nat},Jl ≤ m → m ≤ c.g → False:=fun h1 h2=>Nat.lt_irrefl _ (Nat.lt_of_lt_of_le hlt (Nat.le_trans h1 h2))
 refine ⟨fun _=>?_,fun hge=>(hnl (Nat.le_refl _) hge).elim,fun hge=>(hnl Qgr.1 hge).elim,fun hge=>(hnl Qgr.2.1 hge).elim⟩
 refine ⟨he,fun n=>QFM n _ _,fun M w vals hG hF hl hr=>?_⟩
 refine (QC6 hf hb (QuD hcs) hres hn (F:=M.F) hG hF hl ?_ (Qje 0 _ _)).mono fun e w' ⟨u,F',h1,h2,h3,h4,h5⟩=>⟨u,F',h1,h2,h3,h4,h5 _ (Snap.le.refl _)⟩
 intro i c' u hc hu M' hM'
 obtain ⟨t,x,rfl⟩:=Qf1 _ _ c' (List.mem_of_getElem? hc)
 exact QBr hM' (hr i _ u hc hu)
def QyK (g : Nat) (tys : List Ty) (t : Ty) (f : Qny tys → Option (List t.den)) : Ctr:=⟨g + Jl,tys,[.list t],f⟩
theorem QsE {P : Program} {gl : Nat → Option (List V)} {g : Nat} {tys : List Ty} {t : Ty} {f : Qny tys → Option (List t.den)} (hlt : Nat.blt g Jl = true) {fn : Func} {code : Code} (hf : P.funcs[g]? = some fn) (hb : fn.body = some code) (he : Gg P g = true) {A : List (List Nat × Ann)} {I : List (List Nat × Nat)} {cs : List Ctr}
  (hcs : ∀ x ∈ cs,CtrOkG P gl x) (hrun : ∀ xs y,f xs = some y → ∃ n,WV P gl A I (Qn cs) fn code (Qsk P fn t) n (Qt tys xs) = some y) : CtrOkG P gl (QyK g tys t f):=by
 intro xs y hy
 obtain ⟨n,hn⟩:=hrun xs y hy
 have hm:=(Qoz (Qla hlt)).1
 refine ⟨fun hlt=>absurd hlt (Nat.not_lt.2 (Nat.le_add_left _ _)),fun _ _ t' ys hv=>?_,fun h1=>(Nat.lt_irrefl _ (Nat.lt_of_lt_of_le hm h1)).elim,fun h1=>(Nat.lt_irrefl _ (Nat.lt_of_lt_of_le hm (Nat.le_trans Qgr.2.2 h1))).elim⟩
 have hv : V.d (.list t) y = .d (.list t') ys:=hv
 cases hv
 refine ⟨by rw [show (QyK g tys t f).g - Jl = g from Nat.add_sub_cancel _ _]; exact he,fun M w vals hG hF hl hr=>?_⟩
 rw [show (QyK g tys t f).g - Jl = g from Nat.add_sub_cancel _ _]
 refine QGZ hf hb (QuD hcs) hn (F:=M.F) hG hF hl ?_ (Qje 0 _ _)
 intro i c' u hc hu M' hM'
 obtain ⟨t,x,rfl⟩:=Qf1 _ _ c' (List.mem_of_getElem? hc)
 exact QBr hM' (hr i _ u hc hu)
def HB (g : Nat) (tys rets : List Ty) (f : Qny tys → Option (QhP rets)) : Ctr:=⟨g + JI,tys,rets,f⟩
theorem Y6 {P : Program} {gl : Nat → Option (List V)} {g : Nat} {tys rets : List Ty} {f : Qny tys → Option (QhP rets)} (hlt : Nat.blt g Jl = true) {fn : Func} {code : Code} (hf : P.funcs[g]? = some fn) (hb : fn.body = some code) (he : Gg P g = true) {A : List (List Nat × Ann)} {I : List (List Nat × Nat)} {cs : List Ctr}
  (hcs : ∀ x ∈ cs,CtrOkG P gl x) (hrun : ∀ xs y,f xs = some y → ∃ n,WV P gl A I (Qn cs) fn code (We P fn rets) n (Qt tys xs) = some y) : CtrOkG P gl (HB g tys rets f):=by
 intro xs y hy
 obtain ⟨n,hn⟩:=hrun xs y hy
 obtain ⟨m1,m2⟩:=Qoz (Qla hlt)
 have hg : (HB g tys rets f).g = g + JI:=rfl
 have hge : JI ≤ g + JI:=Nat.le_add_left _ _
 rw [hg]
 refine ⟨fun h1=>(Nat.lt_irrefl _ (Nat.lt_of_lt_of_le h1 (Nat.le_trans Qgr.1 hge))).elim,fun _ h1=>(Nat.lt_irrefl _ (Nat.lt_of_lt_of_le h1 hge)).elim,fun _ _=>?_,fun h1=>(Nat.lt_irrefl _ (Nat.lt_of_lt_of_le m2 h1)).elim⟩
 rw [Nat.add_sub_cancel]
 refine ⟨he,fun M w vals hG hF hl hr=>?_⟩
 refine QFL hf hb (QuD hcs) hn (F:=M.F) hG hF hl ?_ (Qje 0 _ _)
 intro i c' u hc hu M' hM'
 obtain ⟨t,x,rfl⟩:=Qf1 _ _ c' (List.mem_of_getElem? hc)
 exact QBr hM' (hr i _ u hc hu)
theorem QyL {P : Program} {gl : Nat → Option (List V)} {g : Nat} {tys : List Ty} {t : Ty} {f : Qny tys → Option (List t.den)} (hlt : Nat.blt g Jl = true) (ht : t.flat = true) (h : CtrOkG P gl (QyK g tys t f)) : CtrOkG P gl (HB g tys [.list t] f):=by
 intro xs y hy
 obtain ⟨m1,m2⟩:=Qoz (Qla hlt)
 have hg : (HB g tys [.list t] f).g = g + JI:=rfl
 have hge : JI ≤ g + JI:=Nat.le_add_left _ _
 rw [hg]
 refine ⟨fun h1=>(Nat.lt_irrefl _ (Nat.lt_of_lt_of_le h1 (Nat.le_trans Qgr.1 hge))).elim,fun _ h1=>(Nat.lt_irrefl _ (Nat.lt_of_lt_of_le h1 hge)).elim,fun _ _=>?_,fun h1=>(Nat.lt_irrefl _ (Nat.lt_of_lt_of_le m2 h1)).elim⟩
 rw [Nat.add_sub_cancel]
 have h0:=(h xs y hy).2.1 (Nat.le_add_left _ _) m1 t y rfl
 rw [show (QyK g tys t f).g - Jl = g from Nat.add_sub_cancel _ _] at h0
 obtain ⟨he,h0⟩:=h0
 refine ⟨he,fun M w vals hG hF hl hr=>(h0 M w vals hG hF hl hr).mono fun e w'=>?_⟩
 rintro ⟨u,F',o,rfl,q1,q2,q3,q4,q5,q6⟩
 obtain ⟨bs,k1,k2,k3⟩:=QHU (n0:=w.heap.size) (w':=w') ht q4 q5 (fun ad v hv=>by
  rcases q2 ad v hv with h1 | h1
  ·exact (hF ad v h1).block (q3.block _ (hF ad v h1).lt)
  ·exact h1.1) q6
 exact ⟨u,bs,rfl,q3,k1,k2,k3⟩
def QEJ (g : Nat) (t : Ty) (f : Qny [t,.int .i64] → Option (QhP [.int .i64,t])) : Ctr:=⟨g + Wd,[t,.int .i64],[.int .i64,t],f⟩
end Go.Ab
