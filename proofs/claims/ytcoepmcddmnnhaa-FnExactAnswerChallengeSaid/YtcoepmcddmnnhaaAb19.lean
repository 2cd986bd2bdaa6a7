import Derived.Test.YtcoepmcddmnnhaaAb18
import Derived.Test.YtcoepmcddmnnhaaAb16d
namespace Go.Ab
structure Ctr where
 g : Nat
 tys : List Ty
 rets : List Ty
 f : WQ tys → Option (Qbd rets)
def EG : (ts : List Ty) → List V → Option (WQ ts)
 | [],[]=>some ()
 | t :: ts,v :: vs=>match JG t v,EG ts vs with
  | some x,some y=>some (x,y)
  | _,_=>none
 | _,_=>none
def Qgs : List Ctr → Nat → Option Ctr
 | [],_=>none
 | c :: cs,g=>bif Nat.beq c.g g then some c else Qgs cs g
def Qp (cs : List Ctr) {R : Type} : Nat → List V → (V → Option R) → Option R:=fun g args K =>
 match Qgs cs g with
 | some c=>match EG c.tys args with
  | some xs=>match c.f xs with
   | some y=>K (X5 c.rets y)
   | none=>none
  | none=>none
 | none=>none
def CtrOkG (P : Program) (gl : Nat → Option (List V)) (c : Ctr) : Prop:=∀ xs y,c.f xs = some y → QiX P gl c.g (QM c.tys xs) (X5 c.rets y)
abbrev Qu (P : Program) (c : Ctr) : Prop:=CtrOkG P noG c
theorem CtrOkG.any {P : Program} {c : Ctr} (h : Qu P c) {gl : Nat → Option (List V)} : CtrOkG P gl c:=by
 intro xs y hy
 obtain ⟨h1,h2,h3,h4⟩:=h xs y hy
 refine ⟨fun hlt=>?_,fun hge hlt t ys hv=>?_,fun hge hlt=>?_,h4⟩
 ·obtain ⟨a1,a2,a3⟩:=h1 hlt
  exact ⟨a1,a2,fun M w vals _=>a3 M w vals (GlobOk.none _)⟩
 ·obtain ⟨a1,a3⟩:=h2 hge hlt t ys hv
  exact ⟨a1,fun M w vals _=>a3 M w vals (GlobOk.none _)⟩
 ·obtain ⟨a1,a3⟩:=h3 hge hlt
  exact ⟨a1,fun M w vals _=>a3 M w vals (GlobOk.none _)⟩
theorem QcD (n : Nat) : ∀ (ts : List Ty) (x : Qbd ts),V.le.leL n (Ya ts x) = true
 | [],_=>rfl
 | [t],x=>by simp only [Ya,V.le.leL,Bool.and_true]; exact YQ n t x
 | t :: u :: ts,x=>by
  simp only [Ya,V.le.leL,Bool.and_eq_true]
  exact ⟨YQ n t x.1,QcD n (u :: ts) x.2⟩
theorem QfT (n : Nat) : ∀ (ts : List Ty) (x : Qbd ts),(X5 ts x).le n = true
 | [],_=>rfl
 | [t],x=>YQ n t x
 | t :: u :: ts,x=>QcD n (t :: u :: ts) x
theorem U3 {M : Me} : ∀ {ts : List Ty} {vs : List V} {us : List Value} {xs : WQ ts},EG ts vs = some xs → vs.length = us.length → (∀ (i : Nat) c u,vs[i]? = some c → us[i]? = some u → RelV M c u) →
  (QM ts xs).length = us.length ∧ ∀ (i : Nat) c u,(QM ts xs)[i]? = some c → us[i]? = some u → RelV M c u
 | [],[],us,xs,_,hl,_=>⟨hl,fun i c u hc=>by simp [QM] at hc⟩
 | t :: ts,v :: vs,[],xs,h,hl,hr=>by cases hl
 | t :: ts,v :: vs,u :: us,xs,h,hl,hr=>by
  simp only [EG] at h
  split at h
  case h_2=>cases h
  rename_i x y hx hy
  cases h
  obtain ⟨k1,k2⟩:=U3 hy (by simpa using hl) (fun i c u hc hu=>hr (i + 1) c u hc hu)
  refine ⟨by simp [QM,k1],fun i c u' hc hu=>?_⟩
  cases i with
  | zero =>
   simp only [QM,List.getElem?_cons_zero,Option.some.injEq] at hc hu
   subst hc; subst hu
   exact YL (YR hx (hr 0 v u rfl rfl))
  | succ i=>exact k2 i c u' (by simpa [QM] using hc) (by simpa using hu)
theorem QdW : ∀ {cs : List Ctr} {g : Nat} {c : Ctr},Qgs cs g = some c → c ∈ cs ∧ c.g = g
 | [],_,_,h=>by cases h
 | c :: cs,g,c',h=>by
  simp only [Qgs] at h
  cases hb : Nat.beq c.g g with
  | true =>
   rw [hb] at h
   simp only [cond_true,Option.some.injEq] at h
   subst h
   exact ⟨List.mem_cons_self,Nat.eq_of_beq_eq_true hb⟩
  | false =>
   rw [hb] at h
   obtain ⟨h1,h2⟩:=QdW (cs:=cs) h
   exact ⟨List.mem_cons_of_mem _ h1,h2⟩
theorem U4 {t : Ty} {x : t.den} {t' : Ty} {y : t'.den} (h : Ye t (.d t' y) = some x) : V.d t' y = .d t x:=by
 have key : cast? t' t y = some x:=by
  cases t <;> exact h
 unfold cast? at key
 split at key
 ·rename_i e _
  subst e
  simp only [Option.some.injEq] at key
  subst key
  rfl
 ·cases key
theorem XH {t : Ty} {x : t.den} {v : V} (h : Ye t v = some x) (hv : v.dok1 = true) : t.dok = true:=by
 cases v with
 | d t' y =>
  have:=U4 h
  cases this
  exact hv
 | _=>simp [V.dok1] at hv
theorem EH : ∀ {t : Ty} {x : t.den} {vs : List V},ZB t vs = some x → vs.all V.dok1 = true → t.dok = true
 | .pair a b,x,vs,h,hv=>by
  simp only [ZB] at h
  split at h
  ·rename_i y z hy hz
   have h1:=List.all_eq_true.1 hv
   simp only [Ty.dok,Bool.and_eq_true]
   exact ⟨EH hy (List.all_eq_true.2 fun c hc=>h1 c (List.mem_of_mem_take hc)),EH hz (List.all_eq_true.2 fun c hc=>h1 c (List.mem_of_mem_drop hc))⟩
  ·cases h
 | .unit,_,_,_,_=>rfl
 | .int _,_,_,_,_=>rfl
 | .bool,_,_,_,_=>rfl
 | .str,_,_,_,_=>rfl
 | .list t,x,[],h,_=>by simp [ZB] at h
 | .list t,x,[v],h,hv=>XH (t:=.list t) (by simpa [ZB] using h) (by simpa using hv)
 | .list t,x,_ :: _ :: _,h,_=>by simp [ZB] at h
 | .map k e,x,[],h,_=>by simp [ZB] at h
 | .map k e,x,[v],h,hv=>XH (t:=.map k e) (by simpa [ZB] using h) (by simpa using hv)
 | .map k e,x,_ :: _ :: _,h,_=>by simp [ZB] at h
 | .tree a,x,vs,h,hv=>by
  simp only [ZB] at h
  split at h
  ·rename_i v k hv' hk
   rw [Option.map_eq_some_iff] at h
   obtain ⟨ks,hks,rfl⟩:=h
   have hm : k ∈ vs.drop a.cells:=by rw [hk]; simp
   have:=XH hks (List.all_eq_true.1 hv k (List.mem_of_mem_drop hm))
   exact this
  ·cases h
theorem QgS {t : Ty} {x : t.den} {v : V} (h : JG t v = some x) (hv : v.dokV = true) : t.dok = true:=by
 cases t with
 | pair a b =>
  cases v <;> first
   | (simp [JG] at h; done)
   | exact EH h hv
 | unit=>rfl
 | tree a =>
  cases v <;> first
   | (simp [JG] at h; done)
   | exact EH h hv
 | map k e =>
  refine XH (v:=v) (by simpa [JG] using h) ?_
  cases v <;> first | exact hv | (simp [JG,Ye] at h)
 | list t =>
  refine XH (v:=v) (by simpa [JG] using h) ?_
  cases v <;> first | exact hv | (simp [JG,Ye] at h)
 | int k=>rfl
 | bool=>rfl
 | str=>rfl
theorem QhC {P : Program} {g : Nat} {v : V} {k k' : Int} {b : V} : ∀ {tys : List Ty} {xs : WQ tys} {x : V},EG tys [x,.d (.int .i64) k] = some xs → v = .tup [.d (.int .i64) k',b] → QiW P g (QM tys xs) v →
  JH P g = true ∧ ∀ (w : World) (u : Value) (bs : List Nat),x.dokV = true → Zd w x u bs → bs.Nodup → inK .i64 k = true →
   Calls P g #[u,.int .i64 k] w fun e w'=>e = .returned (.int .i64 k') ∧ inK .i64 k' = true ∧ Zd w' b u bs ∧ BelowX bs w w'
 | [],_,_,h,_,_=>by simp [EG] at h
 | [_],_,_,h,_,_=>by simp [EG] at h
 | _ :: _ :: _ :: _,_,_,h,_,_=>by simp [EG] at h
 | [t1,t2],xs,x,h,hv,hA=>by
  simp only [EG] at h
  split at h
  case h_2=>cases h
  rename_i x0 z hx0 hz
  cases h
  split at hz
  case h_2=>cases hz
  rename_i k0 q hk0 hq
  cases hz
  have hk : Yd t2 k0 = .d (.int .i64) k:=by
   cases t2 with
   | pair a b=>simp [JG] at hk0
   | unit=>simp [JG] at hk0
   | tree a=>simp [JG] at hk0
   | int kk=>exact (U4 (t:=.int kk) (t':=.int .i64) (y:=k) hk0).symm
   | bool=>exact (U4 (t:=.bool) (t':=.int .i64) (y:=k) hk0).symm
   | str=>exact (U4 (t:=.str) (t':=.int .i64) (y:=k) hk0).symm
   | list t=>exact (U4 (t:=.list t) (t':=.int .i64) (y:=k) hk0).symm
   | map a b=>exact (U4 (t:=.map a b) (t':=.int .i64) (y:=k) hk0).symm
  have ha : QM [t1,t2] (x0,(k0,q)) = [Yd t1 x0,.d (.int .i64) k]:=by simp only [QM,hk]
  obtain ⟨h1,h2⟩:=hA (Yd t1 x0) k k' b ha hv
  refine ⟨h1,fun w u bs hdk hd hn hik=>?_⟩
  have hdok:=QgS hx0 hdk
  refine h2 w u bs ?_ (QeT (Qfy hdok hx0 hd)) hn hik
  clear h2 hd hdk hA ha hx0
  have ex : ∀ (t : Ty) (x : t.den),t.dok = true → (ZN t x).all V.dok1 = true:=by
   intro t
   induction t with
   | int k=>intro x _; rfl
   | bool=>intro x _; rfl
   | str=>intro x _; rfl
   | unit=>intro x _; rfl
   | list t _=>intro x h; simp [ZN,V.dok1,h]
   | map k e _ _=>intro x h; cases h
   | tree a _=>intro x h; cases h
   | pair a b iha ihb =>
    intro x h
    simp only [Ty.dok,Bool.and_eq_true] at h
    simp only [ZN,List.all_append,Bool.and_eq_true]
    exact ⟨iha x.1 h.1,ihb x.2 h.2⟩
  cases t1 with
  | pair a b=>exact ex _ x0 hdok
  | unit=>rfl
  | tree a=>cases hdok
  | map k e=>cases hdok
  | list t=>exact hdok
  | int k=>rfl
  | bool=>rfl
  | str=>rfl
theorem GJ : QF ≤ ZG ∧ QF ≤ Gk ∧ ZG ≤ Gk:=by
 unfold QF ZG Gk
 omega
theorem EI {P : Program} {gl : Nat → Option (List V)} {cs : List Ctr} (h : ∀ c ∈ cs,CtrOkG P gl c) {R : Type} : Wl P gl (R:=R) (Qp cs):=by
 intro g args K r hc
 unfold Qp at hc
 split at hc
 case h_2=>cases hc
 rename_i c hf
 split at hc
 case h_2=>cases hc
 rename_i xs hxs
 split at hc
 case h_2=>cases hc
 rename_i y hy
 obtain ⟨hm,hg⟩:=QdW hf
 subst hg
 refine ⟨_,hc,fun hlt=>?_,fun hge hlt t ys hv=>?_,fun hge hlt=>?_,fun hge x k k' b ha hv=>?_⟩
 ·obtain ⟨a1,a2,a3⟩:=(h c hm xs y hy).1 hlt
  refine ⟨a1,a2,fun M w vals hG hF hl hr=>?_⟩
  obtain ⟨k1,k2⟩:=U3 hxs hl hr
  exact a3 M w vals hG hF k1 k2
 ·obtain ⟨a1,a3⟩:=(h c hm xs y hy).2.1 hge hlt t ys hv
  refine ⟨a1,fun M w vals hG hF hl hr=>?_⟩
  obtain ⟨k1,k2⟩:=U3 hxs hl hr
  exact a3 M w vals hG hF k1 k2
 ·obtain ⟨a1,a3⟩:=(h c hm xs y hy).2.2.1 hge hlt
  refine ⟨a1,fun M w vals hG hF hl hr=>?_⟩
  obtain ⟨k1,k2⟩:=U3 hxs hl hr
  exact a3 M w vals hG hF k1 k2
 ·subst ha; exact QhC hxs hv ((h c hm xs y hy).2.2.2 hge)
theorem Qm {P : Program} {gl : Nat → Option (List V)} : ∀ c ∈ ([] : List Ctr),CtrOkG P gl c:=fun c h=>by cases h
theorem Qc {P : Program} {gl : Nat → Option (List V)} {c : Ctr} {cs : List Ctr} (h : CtrOkG P gl c) (hs : ∀ c ∈ cs,CtrOkG P gl c) : ∀ x ∈ c :: cs,CtrOkG P gl x:=by
 intro x hx
 rcases List.mem_cons.1 hx with rfl | hx
 ·exact h
 ·exact hs x hx
theorem XI : ∀ (t : Ty) (x : t.den),∀ c ∈ ZN t x,∃ (t' : Ty) (x' : t'.den),c = .d t' x'
 | .pair a b,x,c,hc=>by
  rcases List.mem_append.1 hc with hc | hc
  ·exact XI a x.1 c hc
  ·exact XI b x.2 c hc
 | .unit,_,c,hc=>by cases hc
 | .int k,x,c,hc=>by rw [List.mem_singleton.1 hc]; exact ⟨_,_,rfl⟩
 | .bool,x,c,hc=>by rw [List.mem_singleton.1 hc]; exact ⟨_,_,rfl⟩
 | .str,x,c,hc=>by rw [List.mem_singleton.1 hc]; exact ⟨_,_,rfl⟩
 | .list t,x,c,hc=>by rw [List.mem_singleton.1 hc]; exact ⟨_,_,rfl⟩
 | .map k e,x,c,hc=>by rw [List.mem_singleton.1 hc]; exact ⟨_,_,rfl⟩
 | .tree a,x,c,hc=>by
  rcases List.mem_append.1 hc with hc | hc
  ·exact XI a x.val c hc
  ·rw [List.mem_singleton.1 hc]; exact ⟨_,_,rfl⟩
theorem d_F {M M' : Me} (hF : M'.F = M.F) {t : Ty} {x : t.den} {u : Value} (h : RelV M (.d t x) u) : RelV M' (.d t x) u:=by
 cases h with
 | d _ _ _ hd=>exact .d _ _ _ (by rw [hF]; exact hd)
theorem QcE {M M' : Me} (hF : M'.F = M.F) {t : Ty} {x : t.den} {u : Value} (h : RelV M (Yd t x) u) : RelV M' (Yd t x) u:=by
 have agg : ∀ cs,(∀ c ∈ cs,∃ (t' : Ty) (x' : t'.den),c = .d t' x') → RelV M (.agg cs) u → RelV M' (.agg cs) u:=by
  intro cs hcs h
  cases h with
  | agg _ arr hl hr h1 =>
   refine .agg _ arr hl (fun i c u hc hu=>?_) h1
   obtain ⟨t',x',rfl⟩:=hcs c (List.mem_of_getElem? hc)
   exact d_F hF (hr i _ u hc hu)
 cases t with
 | pair a b=>exact agg _ (XI (.pair a b) x) h
 | unit=>exact agg _ (fun c hc=>by cases hc) h
 | int k=>exact d_F hF h
 | bool=>exact d_F hF h
 | str=>exact d_F hF h
 | list t=>exact d_F hF h
 | map k e=>exact d_F hF h
 | tree a=>exact agg _ (XI (.tree a) x) h
theorem Gn : ∀ (ts : List Ty) (xs : WQ ts),∀ c ∈ QM ts xs,∃ (t : Ty) (x : t.den),c = Yd t x
 | [],_,c,hc=>by cases hc
 | t :: ts,x,c,hc=>by
  rcases List.mem_cons.1 hc with rfl | hc
  ·exact ⟨t,x.1,rfl⟩
  ·exact Gn ts x.2 c hc
theorem Qq {P : Program} {gl : Nat → Option (List V)} {c : Ctr} (hlt : Nat.blt c.g QF = true) {fn : Func} {code : Code} (hf : P.funcs[c.g]? = some fn) (hb : fn.body = some code) (he : JH P c.g = true) (hres : c.rets.length = fn.results.size) {A : List (List Nat × Ann)} {I : List (List Nat × Nat)} {cs : List Ctr}
  (hcs : ∀ x ∈ cs,CtrOkG P gl x) (hrun : ∀ xs y,c.f xs = some y → ∃ n,Qbe P gl A I (Qp cs) fn code (Qg5 P fn (QG c.rets)) n (QM c.tys xs) = some y) : CtrOkG P gl c:=by
 intro xs y hy
 obtain ⟨n,hn⟩:=hrun xs y hy
 have hlt:=Ha hlt
 have hnl : ∀ {m : Nat},QF ≤ m → m ≤ c.g → False:=fun h1 h2=>Nat.lt_irrefl _ (Nat.lt_of_lt_of_le hlt (Nat.le_trans h1 h2))
 refine ⟨fun _=>?_,fun hge=>(hnl (Nat.le_refl _) hge).elim,fun hge=>(hnl GJ.1 hge).elim,fun hge=>(hnl GJ.2.1 hge).elim⟩
 refine ⟨he,fun n=>QfT n _ _,fun M w vals hG hF hl hr=>?_⟩
 refine (QdT hf hb (EI hcs) hres hn (F:=M.F) hG hF hl ?_ (Up 0 _ _)).mono fun e w' ⟨u,F',h1,h2,h3,h4,h5⟩=>⟨u,F',h1,h2,h3,h4,h5 _ (Snap.le.refl _)⟩
 intro i c' u hc hu M' hM'
 obtain ⟨t,x,rfl⟩:=Gn _ _ c' (List.mem_of_getElem? hc)
 exact QcE hM' (hr i _ u hc hu)
def Hx (g : Nat) (tys : List Ty) (t : Ty) (f : WQ tys → Option (List t.den)) : Ctr:=⟨g + QF,tys,[.list t],f⟩
theorem WR {P : Program} {gl : Nat → Option (List V)} {g : Nat} {tys : List Ty} {t : Ty} {f : WQ tys → Option (List t.den)} (hlt : Nat.blt g QF = true) {fn : Func} {code : Code} (hf : P.funcs[g]? = some fn) (hb : fn.body = some code) (he : JH P g = true) {A : List (List Nat × Ann)} {I : List (List Nat × Nat)} {cs : List Ctr}
  (hcs : ∀ x ∈ cs,CtrOkG P gl x) (hrun : ∀ xs y,f xs = some y → ∃ n,Qbe P gl A I (Qp cs) fn code (Y5 P fn t) n (QM tys xs) = some y) : CtrOkG P gl (Hx g tys t f):=by
 intro xs y hy
 obtain ⟨n,hn⟩:=hrun xs y hy
 have hm:=(XE (Ha hlt)).1
 refine ⟨fun hlt=>absurd hlt (Nat.not_lt.2 (Nat.le_add_left _ _)),fun _ _ t' ys hv=>?_,fun h1=>(Nat.lt_irrefl _ (Nat.lt_of_lt_of_le hm h1)).elim,fun h1=>(Nat.lt_irrefl _ (Nat.lt_of_lt_of_le hm (Nat.le_trans GJ.2.2 h1))).elim⟩
 have hv : V.d (.list t) y = .d (.list t') ys:=hv
 cases hv
 refine ⟨by rw [show (Hx g tys t f).g - QF = g from Nat.add_sub_cancel _ _]; exact he,fun M w vals hG hF hl hr=>?_⟩
 rw [show (Hx g tys t f).g - QF = g from Nat.add_sub_cancel _ _]
 refine QdU hf hb (EI hcs) hn (F:=M.F) hG hF hl ?_ (Up 0 _ _)
 intro i c' u hc hu M' hM'
 obtain ⟨t,x,rfl⟩:=Gn _ _ c' (List.mem_of_getElem? hc)
 exact QcE hM' (hr i _ u hc hu)
end Go.Ab
