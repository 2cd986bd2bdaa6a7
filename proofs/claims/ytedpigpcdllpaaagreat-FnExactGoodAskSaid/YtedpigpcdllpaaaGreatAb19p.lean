import Derived.Test.YtedpigpcdllpaaaGreatAb19
import Derived.Test.YtedpigpcdllpaaaGreatAb16w
namespace Go.Ab
def Qrl (g i : Nat) (tys : List Ty) (t : Ty) (f : QcW tys → Option (List t.den)) : Ctr:=⟨Q6 + g * 64 + i,tys,[.list t],f⟩
def QBX (i : Nat) (args : List V) : List V:=match args[i]? with
 | some (.d (.list t) xs)=>args.set i (.own 0 t xs)
 | _=>args
theorem Qy6 : ∀ {tys : List Ty} (xs : QcW tys) {i : Nat} {t : Ty},tys[i]? = some (.list t) → ∃ x : List t.den,(QE tys xs)[i]? = some (.d (.list t) x)
 | [],_,i,t,h=>by simp at h
 | t0 :: ts,xs,0,t,h=>by
  simp only [List.getElem?_cons_zero,Option.some.injEq] at h
  subst h
  exact ⟨xs.1,rfl⟩
 | t0 :: ts,xs,i + 1,t,h=>by
  simp only [List.getElem?_cons_succ] at h
  obtain ⟨x,hx⟩:=Qy6 xs.2 h
  exact ⟨x,by simpa [QE] using hx⟩
theorem QFT {F : Snap} {t : Ty} {x : List t.den} {u : Value} (h : RelD F (.list t) x [u]) {o : Option Reg} {n sz : Nat} (hg : EO o u n sz) : EO o u x.length sz:=by
 obtain ⟨a,cap,h1,h2,h3,h4,_⟩:=h
 simp only [List.cons.injEq,and_true] at h1
 cases o with
 | none =>
  obtain ⟨g1,rfl⟩:=hg
  rw [g1] at h1
  injection h1 with h5 h6 h7
  have:=h4 h5.symm
  exact ⟨g1,h6.symm⟩
 | some reg =>
  obtain ⟨k,ad,g1,g2⟩:=hg
  rw [h1] at g1
  cases g1
  exact ⟨k,ad,h1,g2⟩
theorem QCM {P : Program} {gl : Nat → Option (List V)} {g i : Nat} {tys : List Ty} {t : Ty} {f : QcW tys → Option (List t.den)} (hlt : Nat.blt g Zh = true) (hi : Nat.blt i 64 = true) (htys : tys[i]? = some (.list t)) {fn : Func} {code : Code} (hf : P.funcs[g]? = some fn) (hb : fn.body = some code) (he : Vq P g = true) {A : List (List Nat × Ann)} {I : List (List Nat × Nat)} {cs : List Ctr}
  (hcs : ∀ x ∈ cs,CtrOkG P gl x) (hrun : ∀ xs y,f xs = some y → ∃ n,QGk P gl A I (Qv cs) fn code (QdK P fn t) n (QBX i (QE tys xs)) = some y) : CtrOkG P gl (Qrl g i tys t f):=by
 intro xs y hy
 obtain ⟨n,hn⟩:=hrun xs y hy
 have hi64:=Qbj hi
 have hge : Q6 ≤ (Qrl g i tys t f).g:=by show Q6 ≤ Q6 + g * 64 + i; omega
 have e1 : ((Qrl g i tys t f).g - Q6) / 64 = g:=by
  show (Q6 + g * 64 + i - Q6) / 64 = g
  omega
 have e2 : ((Qrl g i tys t f).g - Q6) % 64 = i:=by
  show (Q6 + g * 64 + i - Q6) % 64 = i
  omega
 refine ⟨fun h1=>(Nat.lt_irrefl _ (Nat.lt_of_lt_of_le h1 (Nat.le_trans Qhv.1 hge))).elim,fun _ h1=>(Nat.lt_irrefl _ (Nat.lt_of_lt_of_le h1 (Nat.le_trans Qhv.2.1 hge))).elim,fun _ h1=>(Nat.lt_irrefl _ (Nat.lt_of_lt_of_le h1 (Nat.le_trans Qhv.2.2 hge))).elim,fun _ h1=>(Nat.lt_irrefl _ (Nat.lt_of_lt_of_le h1 hge)).elim,fun _ _=>?_,fun h1 _=>(by have h0:=Qbj hlt; have h1 : Yp ≤ Q6 + g * 64 + i:=h1; unfold Zh at h0; unfold Yp Q6 at h1; omega : False).elim,fun h1=>(by have h0:=Qbj hlt; have h1 : Vo ≤ Q6 + g * 64 + i:=h1; unfold Zh at h0; unfold Vo Q6 at h1; omega : False).elim⟩
 rw [e1,e2]
 intro t' ys hv
 have hv : V.d (.list t) y = .d (.list t') ys:=hv
 cases hv
 refine ⟨he,fun M w vals u n0 o hG hF hl hr hu hg ho=>?_⟩
 have hl : (QE tys xs).length = vals.length:=hl
 have hr : ∀ (j : Nat) c u,(QE tys xs)[j]? = some c → vals[j]? = some u → RelV M c u:=hr
 obtain ⟨x,hx⟩ : ∃ x : List t.den,(QE tys xs)[i]? = some (.d (.list t) x):=Qy6 xs htys
 have hs : QBX i (QE tys xs) = (QE tys xs).set i (.own 0 t x):=by
  unfold QBX
  rw [hx]
 rw [hs] at hn
 have hd : RelD M.F (.list t) x [u]:=by
  cases hr i _ u hx hu with
  | d _ _ _ hd=>exact hd
 refine QDD hf hb (Qi9 hcs) hn (F:=M.F) (o:=o) hG hF (by rw [List.length_set]; exact hl) (fun j c u' hc hu'=>?_) (HW fun c hc=>?_) ho
 ·rw [List.getElem?_set] at hc
  split at hc
  ·rename_i hj
   subst hj
   split at hc
   ·cases hc
    rw [hu] at hu'
    cases hu'
    exact .own _ _ _ _ hd Nat.one_pos fun reg hreg=>by
     cases (Option.some.inj hreg : o = reg)
     exact QFT hd hg
   ·cases hc
  ·obtain ⟨t1,x1,rfl⟩:=XM _ _ c (List.mem_of_getElem? hc)
   refine Qja (M:=M) ?_ (hr j _ u' hc hu')
   rfl
 ·rcases List.mem_or_eq_of_mem_set hc with h1 | h1
  ·obtain ⟨k,hk⟩:=List.getElem?_of_mem h1
   exact VQ (Qi6 0 tys xs) hk
  ·rw [h1]; rfl
end Go.Ab
namespace Go.Ab
noncomputable section
theorem Qy7 {M : Me} {w : World} : ∀ {cs : List V} {us : List Value} {bs : List Nat},Jy.DeepVL w cs us bs → (∀ c ∈ cs,∃ (t : Ty) (x : t.den),c = .d t x) → (∀ c ∈ bs,∀ o u,w.cell? ⟨c,o,none⟩ = some u → M.F ⟨c,o,none⟩ = some u) →
  cs.length = us.length ∧ (∀ (i : Nat) c u,cs[i]? = some c → us[i]? = some u → RelV M c u) ∧ ∀ u ∈ us,u.oneCell' = true
 | [],us,bs,h,_,_=>by
  obtain ⟨rfl,rfl⟩:=h
  exact ⟨rfl,fun i c u hc=>by simp at hc,fun u hu=>by cases hu⟩
 | c :: cs,us,bs,⟨u,us',b1,b2,e1,e2,h1,h2⟩,hd,hF=>by
  subst e1; subst e2
  obtain ⟨k1,k2,k3⟩:=Qy7 h2 (fun c hc=>hd c (List.mem_cons_of_mem _ hc)) (fun c hc=>hF c (List.mem_append_right _ hc))
  obtain ⟨t,x,rfl⟩:=hd c List.mem_cons_self
  have h1 : DeepD w t x [u] b1:=h1
  refine ⟨by simp [k1],fun i c' u' hc hu=>?_,fun u' hu=>?_⟩
  ·cases i with
   | zero =>
    simp only [List.getElem?_cons_zero,Option.some.injEq] at hc hu
    subst hc; subst hu
    exact .d _ _ _ (h1.data (fun c hc=>hF c (List.mem_append_left _ hc)))
   | succ i=>exact k2 i c' u' (by simpa using hc) (by simpa using hu)
  ·rcases List.mem_cons.1 hu with rfl | hu
   ·exact h1.one _ (by simp)
   ·exact k3 u' hu
theorem Qeu {M : Me} {w : World} {t : Ty} {x : t.den} {u : Value} {bs : List Nat} (h : Jy w (Yt t x) u bs) (hF : ∀ c ∈ bs,∀ o u,w.cell? ⟨c,o,none⟩ = some u → M.F ⟨c,o,none⟩ = some u) : RelV M (Yt t x) u:=by
 have agg : ∀ cs,(∀ c ∈ cs,∃ (t : Ty) (x : t.den),c = .d t x) → Jy w (.agg cs) u bs → RelV M (.agg cs) u:=by
  intro cs hcs h5
  obtain ⟨arr,hu,h6⟩:=h5
  subst hu
  obtain ⟨k1,k2,k3⟩:=Qy7 (M:=M) h6 hcs hF
  exact .agg _ arr (by rw [k1,Array.length_toList]) (fun i c u hc hu=>k2 i c u hc (by simpa using hu)) (fun u hu=>k3 u (by simpa using hu))
 have one : ∀ (t : Ty) (x : t.den),Jy w (.d t x) u bs → RelV M (.d t x) u:=fun t x h=>.d _ _ _ (DeepD.data (show DeepD w t x [u] bs from h) hF)
 cases t with
 | pair a b=>exact agg _ (Hv (.pair a b) x) h
 | unit=>exact agg _ (fun c hc=>by cases hc) h
 | int k=>exact one _ _ h
 | bool=>exact one _ _ h
 | str=>exact one _ _ h
 | list t=>exact one _ _ h
 | map k e=>exact one _ _ h
 | tree a=>exact agg _ (Hv (.tree a) x) h
theorem QcX {M : Me} {w : World} : ∀ {ts : List Ty} {x : QcQ ts} {us : List Value} {bs : List Nat},Jy.DeepVL w (ZZ ts x) us bs → (∀ c ∈ bs,∀ o u,w.cell? ⟨c,o,none⟩ = some u → M.F ⟨c,o,none⟩ = some u) →
  (ZZ ts x).length = us.length ∧ ∀ (i : Nat) c u,(ZZ ts x)[i]? = some c → us[i]? = some u → RelV M c u
 | [],x,us,bs,h,_=>by
  obtain ⟨rfl,rfl⟩:=h
  exact ⟨rfl,fun i c u hc=>by simp [ZZ] at hc⟩
 | [t],x,us,bs,h,hF=>by
  obtain ⟨u,us',b1,b2,rfl,rfl,h1,h2⟩:=h
  obtain ⟨rfl,rfl⟩:=h2
  refine ⟨rfl,fun i c u' hc hu=>?_⟩
  cases i with
  | zero =>
   simp only [ZZ,List.getElem?_cons_zero,Option.some.injEq] at hc hu
   subst hc; subst hu
   exact Qeu h1 (fun c hc=>hF c (by simpa using hc))
  | succ i=>simp [ZZ] at hc
 | t :: t2 :: ts,x,us,bs,h,hF=>by
  obtain ⟨u,us',b1,b2,rfl,rfl,h1,h2⟩:=h
  obtain ⟨k1,k2⟩:=QcX (ts:=t2 :: ts) h2 (fun c hc=>hF c (List.mem_append_right _ hc))
  refine ⟨by simp only [ZZ,List.length_cons,k1],fun i c u' hc hu=>?_⟩
  cases i with
  | zero =>
   simp only [ZZ,List.getElem?_cons_zero,Option.some.injEq] at hc hu
   subst hc; subst hu
   exact Qeu h1 (fun c hc=>hF c (List.mem_append_left _ hc))
  | succ i=>exact k2 i c u' (by simpa [ZZ] using hc) (by simpa using hu)
theorem Qvf {M : Me} {w : World} {ts : List Ty} {x : QcQ ts} {u : Value} {bs : List Nat} (h : Jy w (Qak ts x) u bs) (hF : ∀ c ∈ bs,∀ o u,w.cell? ⟨c,o,none⟩ = some u → M.F ⟨c,o,none⟩ = some u) : RelV M (Qak ts x) u:=by
 match ts,x,h with
 | [],x,h =>
  obtain ⟨arr,hu,h6⟩:=h
  subst hu
  obtain ⟨k1,k2⟩:=QcX (M:=M) (ts:=[]) (x:=x) h6 hF
  exact .tup _ arr (by rw [k1,Array.length_toList]) (fun i c u hc hu=>k2 i c u hc (by simpa using hu))
 | [t],x,h=>exact Qeu h hF
 | t :: t2 :: ts,x,h =>
  obtain ⟨arr,hu,h6⟩:=h
  subst hu
  obtain ⟨k1,k2⟩:=QcX (M:=M) (ts:=t :: t2 :: ts) (x:=x) h6 hF
  exact .tup _ arr (by rw [k1,Array.length_toList]) (fun i c u hc hu=>k2 i c u hc (by simpa using hu))
open Classical in
def QFU (F : Snap) (n : Nat) (w : World) : Snap:=fun a=>match F a with
 | some u=>some u
 | none=>if n ≤ a.block ∧ a.spot = none then w.cell? a else none
theorem QAf {P : Program} {gl : Nat → Option (List V)} {g : Nat} {tys rets : List Ty} {f : QcW tys → Option (QcQ rets)} (hlt : Nat.blt g Zh = true) (h : CtrOkG P gl (QkB g tys rets f)) : CtrOkG P gl ⟨g,tys,rets,f⟩:=by
 intro xs y hy
 have hlt:=Qbj hlt
 have hnl : ∀ {m : Nat},Zh ≤ m → m ≤ g → False:=fun h1 h2=>Nat.lt_irrefl _ (Nat.lt_of_lt_of_le hlt (Nat.le_trans h1 h2))
 have hd:=(h xs y hy).2.2.1 (Nat.le_add_left _ _) (Qi4 hlt).2
 rw [show (QkB g tys rets f).g - ZP = g from Nat.add_sub_cancel _ _] at hd
 refine ⟨fun _=>?_,fun hge=>(hnl (Nat.le_refl _) hge).elim,fun hge=>(hnl Qf3.1 hge).elim,fun hge _=>(hnl Qf3.2.1 hge).elim,fun hge _=>(hnl Qhv.1 hge).elim,fun hge _=>(hnl box_le.1 hge).elim,fun hge=>(hnl Qik.1 hge).elim⟩
 obtain ⟨he,hd⟩:=hd
 refine ⟨he,fun n=>Qy0 n _ _,fun M w vals hG hF hl hr=>(hd M w vals hG hF hl hr).mono fun e w'=>?_⟩
 rintro ⟨u,bs,rfl,q1,q2,q3,q4⟩
 refine ⟨u,QFU M.F w.heap.size w',rfl,fun a v hv=>by unfold QFU; rw [hv],fun a v hv=>?_,q1,?_⟩
 ·unfold QFU at hv
  split at hv
  ·rename_i x hx; cases hv; exact .inl hx
  ·split at hv
   ·rename_i hc
    refine .inr ⟨?_,hc.1⟩
    exact Sees.of hc.2 hv
   ·cases hv
 ·refine Qvf q2 fun c hc o u hu=>?_
  show QFU M.F w.heap.size w' ⟨c,o,none⟩ = some u
  unfold QFU
  split
  ·rename_i x hx
   have hs:=(hF _ _ hx).lt
   have:=q4 c hc
   exact absurd hs (by simpa using this)
  ·rw [if_pos ⟨q4 c hc,rfl⟩]
   exact hu
end
end Go.Ab
