import Derived.Test.YtcoepmcddmnnhaaAb31
namespace Go.Ab
def QhK (P : Program) (g : Nat) (t : Ty) : Prop :=
 JH P g = true ∧ t.cells = 1 ∧ ∀ (n : Nat) (w : World),0 < n → n ≤ 1000000000000 → Calls P g #[.slice none 0 0,.int .i64 n] w fun e w' =>
  ∃ (c : Nat) (cur : Array Value) (e' : TypeId),e = .returned (.slice (some ⟨w.heap.size,0,none⟩) 0 c) ∧ w' = w.drew.alloc (.cells cur e') ∧ cur.size = c ∧ c ≤ maxLen
def EK (g : Nat) (t : Ty) {R : Type} (con : Nat → List V → (V → Option R) → Option R) : Nat → List V → (V → Option R) → Option R:=fun g' args K =>
 bif Nat.beq g' (g + QF) then (match args with
  | [.nils,.d (.int .i64) n]=>bif decide ((0 : Int) < n) && decide ((n : Int) ≤ 1000000000000) then K (.d (.list t) ([] : List t.den)) else none
  | _=>none)
 else con g' args K
theorem QfV {P : Program} {gl : Nat → Option (List V)} {g : Nat} {t : Ty} (hlt : Nat.blt g QF = true) (hg : QhK P g t) {R : Type} {con : Nat → List V → (V → Option R) → Option R} (hc : Wl P gl con) : Wl P gl (EK g t con):=by
 intro g' args K r h
 unfold EK at h
 cases hb : Nat.beq g' (g + QF) with
 | false=>rw [hb] at h; exact hc g' args K r h
 | true =>
  rw [hb] at h
  simp only [cond_true] at h
  obtain rfl:=Nat.eq_of_beq_eq_true hb
  split at h
  case h_2=>cases h
  rename_i n
  obtain ⟨h0,hk⟩:=Qa h
  simp only [Bool.and_eq_true,decide_eq_true_eq] at h0
  have hm:=(XE (Ha hlt)).1
  refine ⟨_,hk,fun hl=>absurd hl (Nat.not_lt.2 (Nat.le_add_left _ _)),fun _ _ t' ys hv=>?_,fun h1=>(Nat.lt_irrefl _ (Nat.lt_of_lt_of_le hm h1)).elim,fun h1=>(Nat.lt_irrefl _ (Nat.lt_of_lt_of_le hm (Nat.le_trans GJ.2.2 h1))).elim⟩
  cases hv
  obtain ⟨he,h1c,hcall⟩:=hg
  rw [Nat.add_sub_cancel]
  refine ⟨he,fun M w vals hG hF hl hr=>?_⟩
  match vals,hl,hr with
  | [v1,v2],_,hr =>
   have e1 : v1 = .slice none 0 0:=(hr 0 _ _ rfl rfl).nils_inv
   obtain ⟨e2,_⟩:=(hr 1 _ _ rfl rfl).int_inv
   subst e1
   subst e2
   have key : ∀ m : Int,0 < m → m ≤ 1000000000000 → 0 < Int.toNat m ∧ Int.toNat m ≤ 1000000000000 ∧ ((Int.toNat m : Nat) : Int) = m:=by intro m; omega
   obtain ⟨k1,k2,k3⟩:=key n h0.1 h0.2
   have hc2:=hcall (Int.toNat n) w k1 k2
   rw [k3] at hc2
   refine hc2.mono fun e w'=>?_
   rintro ⟨c,cur,e',rfl,rfl,hs,hm'⟩
   have hsz : w.drew.heap.size = w.heap.size:=rfl
   have hnew : (w.drew.alloc (.cells cur e')).heap[w.heap.size]? = some (.cells cur e' (0,0)):=by
    have:=heap_alloc_new w.drew (.cells cur e')
    rwa [hsz] at this
   refine ⟨_,M.F,some ⟨w.heap.size,c,0,1⟩,rfl,.refl _,fun a u hu=>.inl hu,?_,?_,?_,?_⟩
   ·have hB : RowKit.Below w.heap.size w w.drew:=⟨rfl,rfl,rfl,Nat.le_refl _,fun _ _=>rfl⟩
    exact hB.alloc hB.size _
   ·exact ⟨some ⟨w.heap.size,0,none⟩,c,rfl,Nat.zero_le _,hm',fun h=>(nomatch h),fun ad _ i x hx=>(nomatch hx)⟩
   ·exact ⟨0,⟨w.heap.size,0,none⟩,rfl,fun _=>by simp,rfl,Nat.zero_le _,by rw [h1c]⟩
   ·rintro reg hreg
    cases hreg
    refine ⟨Nat.le_refl _,Nat.zero_le _,hm',cur,e',hnew,by rw [hs,Nat.mul_one],fun ad hb _=>?_⟩
    have hb : ad.block = w.heap.size:=hb
    cases hu : M.F ad with
    | none=>rfl
    | some u =>
     have:=(hF ad u hu).lt
     omega
theorem Qfa {P : Program} {gl : Nat → Option (List V)} {g : Nat} {tys : List Ty} {t : Ty} {f : WQ tys → Option (List t.den)} (hlt : Nat.blt g QF = true) {fn : Func} {code : Code} (hf : P.funcs[g]? = some fn) (hb : fn.body = some code) (he : JH P g = true) {A : List (List Nat × Ann)} {I : List (List Nat × Nat)}
  {con : Nat → List V → (V → Option (List t.den)) → Option (List t.den)} (hcon : Wl P gl con) (hrun : ∀ xs y,f xs = some y → ∃ n,Qbe P gl A I con fn code (Y5 P fn t) n (QM tys xs) = some y) : CtrOkG P gl (Hx g tys t f):=by
 intro xs y hy
 obtain ⟨n,hn⟩:=hrun xs y hy
 have hm:=(XE (Ha hlt)).1
 refine ⟨fun hlt=>absurd hlt (Nat.not_lt.2 (Nat.le_add_left _ _)),fun _ _ t' ys hv=>?_,fun h1=>(Nat.lt_irrefl _ (Nat.lt_of_lt_of_le hm h1)).elim,fun h1=>(Nat.lt_irrefl _ (Nat.lt_of_lt_of_le hm (Nat.le_trans GJ.2.2 h1))).elim⟩
 have hv : V.d (.list t) y = .d (.list t') ys:=hv
 cases hv
 refine ⟨by rw [show (Hx g tys t f).g - QF = g from Nat.add_sub_cancel _ _]; exact he,fun M w vals hG hF hl hr=>?_⟩
 rw [show (Hx g tys t f).g - QF = g from Nat.add_sub_cancel _ _]
 refine QdU hf hb hcon hn (F:=M.F) hG hF hl ?_ (Up 0 _ _)
 intro i c' u hc hu M' hM'
 obtain ⟨t,x,rfl⟩:=Gn _ _ c' (List.mem_of_getElem? hc)
 exact QcE hM' (hr i _ u hc hu)
theorem Qdl {P : Program} {gl : Nat → Option (List V)} {g : Nat} {tys : List Ty} {t : Ty} {f : WQ tys → Option (List t.den)} (hlt : Nat.blt g QF = true) (h : CtrOkG P gl (Hx g tys t f)) : CtrOkG P gl ⟨g,tys,[.list t],f⟩:=by
 intro xs y hy
 have hg:=Ha hlt
 have hm:=(XE hg).1
 refine ⟨fun _=>?_,fun h1=>(Nat.lt_irrefl _ (Nat.lt_of_lt_of_le hg h1)).elim,fun h1=>(Nat.lt_irrefl _ (Nat.lt_of_lt_of_le hg (Nat.le_trans GJ.1 h1))).elim,fun h1=>(Nat.lt_irrefl _ (Nat.lt_of_lt_of_le hg (Nat.le_trans GJ.2.1 h1))).elim⟩
 obtain ⟨he,hc⟩:=(h xs y hy).2.1 (Nat.le_add_left _ _) hm t y rfl
 rw [show (Hx g tys t f).g - QF = g from Nat.add_sub_cancel _ _] at he hc
 refine ⟨he,fun n=>rfl,fun M w vals hG hF hl hr=>(hc M w vals hG hF hl hr).mono fun e w'=>?_⟩
 rintro ⟨u,F',o,q1,q2,q3,q4,q5,_⟩
 exact ⟨u,F',q1,q2,q3,q4,.d _ _ _ q5⟩
end Go.Ab
