import Derived.Test.YtkabjoifaffddaaGreatAb13
import Derived.Scope
namespace Go.Ab
variable {R:Type}
def Post (P:Program) (base:Base) (w0:Orig) (dp nn:Nat) (θ:Nat→Nat→Value) (N:Nat) (K:Nat→Qaz R) (r:R):Exit→Act→World→Prop | .normal,a,w=>Fam P base w0 dp nn θ N (fun m=>K m .normal) r a w | .exit i,a,w=>Fam P base w0 dp nn θ N (fun m=>K m (.exit i)) r a w | .ret,a,w=>Fam P base w0 dp nn θ N (fun m=>K m .ret) r a w | _,_,_=>False
theorem QjE:∀ p:List Nat,Qml p p=true
 | []=>rfl
 | a::p=>by simp [Qml,QjE p]
theorem QsI:∀ {l:QbK R} {q:List Nat} {g:Z9 R},Qvg l q=true→(q,g)∈l→False
 | [],_,_,_,h=>by simp at h
 | (p,f)::l,q,g,h,hm=>by
  simp only [Qvg,Bool.and_eq_true,Bool.not_eq_true'] at h
  rcases List.mem_cons.1 hm with e | hm
  ·cases e;rw [QjE] at h;cases h.1
  ·exact QsI h.2 hm
theorem QnR:∀ {l:QbK R} {q:List Nat} {f g:Z9 R},QgB l q=some f→(q,g)∈l→g=f
 | [],_,_,_,_,hg=>by simp at hg
 | (p,f0)::l,q,f,g,h,hg=>by
  simp only [QgB] at h
  cases he:Qml p q with
  | false =>
   rw [he] at h
   simp only [cond_false] at h
   rcases List.mem_cons.1 hg with e | hm
   ·cases e;rw [QjE] at he;cases he
   ·exact QnR h hm
  | true =>
   rw [he] at h
   simp only [cond_true] at h
   obtain ⟨hn,h2⟩:=Qn h
   simp only [Option.some.injEq] at h2
   rcases List.mem_cons.1 hg with e | hm
   ·cases e;exact h2
   ·exact (QsI hn hm).elim
section
variable {P:Program} {base:Base} {w0:Orig} {θ:Nat→Nat→Value} {CF:Nat→Ctx R} {root:Nat→QbK R}
theorem QmI (H:CtxOk P w0.gl CF root) {dp nn:Nat} {q:List Nat} {f:Nat→Z9 R} (hroot:∀ m,(q,f m)∈root m) {m:Nat} {st:St} {M:Me} {a:Act} {w:World} {r:R} (hs:(CF m).jump q st=some r) (h:RelA P base w0 dp nn st θ M a w) :
  ∃ m',m=m'+1∧Qy0 P base w0 dp nn θ (f m') r a w:=by
 unfold Ctx.jump at hs
 split at hs
 case h_2=>cases hs
 rename_i an han
 split at hs
 case h_2=>cases hs
 rename_i vs hvs
 obtain ⟨m',g,an',rfl,hg,han',hr⟩:=H.L m q vs r hs
 rw [han] at han'
 cases han'
 have hfg:=QnR hg (hroot m')
 obtain ⟨M',hrel⟩:=Qz0 h.rel hvs
 exact ⟨m',rfl,_,M',RelA.mk hrel h.size h.defers,by rw [hfg];exact hr⟩
theorem Fam.up {dp nn N N':Nat} (hN:N≤N') {K:Nat→Z9 R} {r:R} {a:Act} {w:World} (h:Fam P base w0 dp nn θ N K r a w):Fam P base w0 dp nn θ N' K r a w :=
 let ⟨m,h1,h2⟩:=h;⟨m,Nat.le_trans h1 hN,h2⟩
theorem Post.up {dp nn N N':Nat} (hN:N≤N') {K:Nat→Qaz R} {r:R} {e:Exit} {a:Act} {w:World} (h:Post P base w0 dp nn θ N K r e a w):Post P base w0 dp nn θ N' K r e a w:=by
 cases e with
 | normal=>exact Fam.up hN h
 | exit i=>exact Fam.up hN h
 | ret=>exact Fam.up hN h
 | goto l=>exact h.elim
 | panic c=>exact h.elim
 | outgrown=>exact h.elim
theorem Post.mono_seq {dp nn N:Nat} {K K':Nat→Qaz R} {r:R} {nx:Act→World→Prop} (hn:∀ a w,Fam P base w0 dp nn θ N (fun m=>K m .normal) r a w→nx a w) (hx:∀ m i,K m (.exit i)=K' m (.exit i)) (hr:∀ m,K m .ret=K' m .ret) :
  ∀ e a w,Post P base w0 dp nn θ N K r e a w→Exit.then nx (Post P base w0 dp nn θ N K' r) e a w:=by
 intro e a w h
 cases e with
 | normal=>exact hn a w h
 | exit i =>
  show Fam P base w0 dp nn θ N (fun m=>K' m (.exit i)) r a w
  have:(fun m=>K' m (.exit i))=fun m=>K m (.exit i):=funext fun m=>(hx m i).symm
  rw [this];exact h
 | ret =>
  show Fam P base w0 dp nn θ N (fun m=>K' m .ret) r a w
  have:(fun m=>K' m .ret)=fun m=>K m .ret:=funext fun m=>(hr m).symm
  rw [this];exact h
 | goto l=>exact h.elim
 | panic c=>exact h.elim
 | outgrown=>exact h.elim
theorem QhP (p:Nat→Prop) (h:∃ n,p n):∃ n,p n∧∀ k,p k→n≤k:=by
 obtain ⟨n,hn⟩:=h
 induction n using Nat.strongRecOn with
 | _ n ih =>
  by_cases hk:∃ k,k<n∧p k
  ·obtain ⟨k,h1,h2⟩:=hk
   exact ih k h1 h2
  ·refine ⟨n,hn,fun k hpk=>?_⟩
   rcases Nat.lt_or_ge k n with h1 | h1
   ·exact absurd ⟨k,h1,hpk⟩ hk
   ·exact h1
open Classical in
theorem GR (H:CtxOk P w0.gl CF root) (HI:Quw P base w0 CF root) {dp nn:Nat} {path:List Nat}:∀ (c:Code) (K:Nat→Qaz R) (r:R),(∀ m x,x∈YD (CF m) dp nn path c (K m)→x∈root m) →
  ∀ (m:Nat) (st:St) (M:Me) (a:Act) (w:World),XC (CF m) dp nn path c (K m) st=some r→RelA P base w0 dp nn st θ M a w→c.wp P (Post P base w0 dp nn θ m K r) a w
 | .skip,K,r,_,m,st,M,a,w,hs,h=>wp_skip ⟨m,Nat.le_refl _,st,M,h,hs⟩
 | .region id ops draw,K,r,hsub,m,st,M,a,w,hs,h=>by
  cases draw with
  | true =>
   simp only [XC] at hs
   obtain ⟨h0,hs2⟩:=Qn hs
   clear hs
   rw [H.P_eq m] at h0
   unfold QzJ at h0
   simp only [Bool.and_eq_true] at h0
   obtain ⟨hm,hsel⟩:=h0
   have hd:=QxI (Q:=Post P base w0 dp nn θ m K r) (ops:=ops) (id:=id) (path:=path) (K:=fun m=>K m .normal) (N:=m) H HI hsel (fun c a w hq=>hq) (fun a w hg=>hg) _ _ (fun m x hx=>hsub m x (by simpa only [YD] using hx)) m st M a w.drew (Nat.le_refl _) hs2 ⟨h.rel.drew,h.size,h.defers⟩ (by simp) ops.size (by
    unfold unl Qmn
    exact Nat.le_trans (List.length_filter_le _ _) (by simp))
   exact wp_region_any hm hd
  | false =>
   simp only [XC] at hs
   refine wp_region ?_
   have:=Qux (ops:=ops) (K:=fun m=>K m .normal) H HI (Q:=Post P base w0 dp nn θ m K r) (r:=r) (N:=m) (fun a w h=>h) (1000*id) ops.toList 0 (by simp) (fun m x hx=>hsub m x (by simpa [YD] using hx)) m st M a w (Nat.le_refl _) (by simpa using hs) h
   rw [List.range_eq_range']
   simpa using this
 | .seq x y,K,r,hsub,m,st,M,a,w,hs,h=>by
  simp only [XC] at hs
  have hcut:∀ m,(CF m).cutAt path y=(CF 0).cutAt path y:=fun m=>by unfold Ctx.cutAt;rw [H.A_eq m 0]
  have hsx:∀ m x',x'∈YD (CF m) dp nn path x (Qvc (bif (CF m).cutAt path y then (CF m).jump (1::QcD y::path) else XC (CF m) dp nn path y (K m)) (K m))→x'∈root m:=fun m x' hx=>hsub m x' (by
   simp only [YD];exact List.mem_append.2 (.inr (List.mem_append.2 (.inl hx))))
  have hsy:∀ m x',x'∈YD (CF m) dp nn path y (K m)→x'∈root m:=fun m x' hx=>hsub m x' (by
   simp only [YD];exact List.mem_append.2 (.inr (List.mem_append.2 (.inr hx))))
  have ihx:=GR H HI x (fun m=>Qvc (bif (CF m).cutAt path y then (CF m).jump (1::QcD y::path) else XC (CF m) dp nn path y (K m)) (K m)) r hsx m st M a w hs h
  have ihy:=fun m st M a w=>GR H HI y K r hsy m st M a w
  refine wp_seq (wp_mono ihx (Post.mono_seq ?_ (fun m i=>rfl) (fun m=>rfl)))
  rintro a w ⟨m1,hm1,st,M,h,hs⟩
  simp only [Qvc] at hs
  cases hc:(CF m1).cutAt path y with
  | false =>
   rw [hc] at hs
   exact wp_mono (ihy m1 st M a w hs h) fun e a w hp=>Post.up hm1 hp
  | true =>
   rw [hc] at hs
   obtain ⟨m',rfl,st',M',h',hs'⟩:=QmI (f:=fun m=>XC (CF m) dp nn path y (K m)) H (fun m'=>hsub m' _ (by
    simp only [YD]
    refine List.mem_append.2 (.inl ?_)
    have:(CF m').cutAt path y=true:=by rw [hcut m',← hcut m1];exact hc
    rw [this]
    simp)) hs h
   exact wp_mono (ihy m' st' M' a w hs' h') fun e a w hp=>Post.up (by omega) hp
 | .cond c x y,K,r,hsub,m,st,M,a,w,hs,h=>by
  simp only [XC] at hs
  split at hs
  case h_2=>cases hs
  rename_i t ht
  have hc:=(h.ev c).1
  rw [ht] at hc
  have hc:=hc.bool_inv
  cases t with
  | true=>exact wp_cond_true hc (GR H HI x K r (fun m x' hx=>hsub m x' (by simp only [YD];exact List.mem_append.2 (.inl hx))) m st M a w hs h)
  | false=>exact wp_cond_false hc (GR H HI y K r (fun m x' hx=>hsub m x' (by simp only [YD];exact List.mem_append.2 (.inr hx))) m st M a w hs h)
 | .block id b,K,r,hsub,m,st,M,a,w,hs,h=>by
  simp only [XC] at hs
  refine wp_block (wp_mono (GR H HI b (fun m=>QzG id (K m)) r (fun m x hx=>hsub m x (by simpa only [YD] using hx)) m st M a w hs h) ?_)
  intro e a w hp
  cases e with
  | normal=>exact hp
  | exit i =>
   simp only [Exit.inBlock]
   obtain ⟨m1,hm1,st,M,h,hk⟩:=hp
   by_cases hi:i=id
   ·rw [if_pos hi]
    subst hi
    simp only [QzG,Nat.beq_refl,cond_true] at hk
    exact ⟨m1,hm1,st,M,h,hk⟩
   ·rw [if_neg hi]
    simp only [QzG,HQ hi,cond_false] at hk
    exact ⟨m1,hm1,st,M,h,hk⟩
  | ret=>exact hp
  | goto l=>exact hp.elim
  | panic c=>exact hp.elim
  | outgrown=>exact hp.elim
 | .loop b,K,r,hsub,m,st,M,a,w,hs,h=>by
  simp only [XC] at hs
  let KB:Nat→Qaz R:=fun m=>Qvc ((CF m).jump (0::QcD b::path)) (K m)
  have hroot:∀ m,(0::QcD b::path,XC (CF m) dp nn path b (KB m))∈root m:=fun m=>hsub m _ (by simp only [YD];exact List.mem_cons_self)
  have hsb:∀ m x,x∈YD (CF m) dp nn path b (KB m)→x∈root m:=fun m x hx=>hsub m x (by simp only [YD];exact List.mem_cons_of_mem _ hx)
  have ihb:=fun m st M a w=>GR H HI b KB r hsb m st M a w
  obtain ⟨m',hmm',hstart⟩:=QmI (f:=fun m=>XC (CF m) dp nn path b (KB m)) H hroot hs h
  let G:Nat→Act→World→Prop:=fun m a w=>Qy0 P base w0 dp nn θ (XC (CF m) dp nn path b (KB m)) r a w
  let I:Act→World→Prop:=fun a w=>∃ k,k≤m∧G k a w
  let μ:Act→World→Nat:=fun a w=>if h:∃ k,G k a w then Classical.choose (QhP (fun k=>G k a w) h) else 0
  have hμ:∀ a w (h:∃ k,G k a w),G (μ a w) a w∧∀ k,G k a w→μ a w≤k:=by
   intro a w h
   have e:μ a w=Classical.choose (QhP (fun k=>G k a w) h):=dif_pos h
   rw [e]
   exact Classical.choose_spec (QhP (fun k=>G k a w) h)
  refine wp_loop I μ ⟨m',by omega,hstart⟩ ?_
  rintro a w ⟨k,hk,hgk⟩
  have hmin:=hμ a w ⟨k,hgk⟩
  have hle:μ a w≤m:=Nat.le_trans (hmin.2 k hgk) hk
  obtain ⟨st,M,h,hs⟩:=hmin.1
  refine wp_mono (wp_mono (ihb _ st M a w hs h) (Post.mono_seq (K':=K) (nx:=fun a' w'=>I a' w'∧μ a' w'<μ a w) ?_ (fun m i=>rfl) (fun m=>rfl))) ?_
  ·rintro a1 w1 ⟨m1,hm1,st1,M1,h1,hs1⟩
   simp only [KB,Qvc] at hs1
   obtain ⟨m2,rfl,hg2⟩:=QmI (f:=fun m=>XC (CF m) dp nn path b (KB m)) H hroot hs1 h1
   have:=(hμ a1 w1 ⟨m2,hg2⟩).2 m2 hg2
   exact ⟨⟨m2,by omega,hg2⟩,by omega⟩
  ·intro e a1 w1 hp
   cases e with
   | normal=>exact hp
   | exit i=>exact Post.up (e:=.exit i) hle hp
   | ret=>exact Post.up (e:=.ret) hle hp
   | goto l=>exact hp.elim
   | panic c=>exact hp.elim
   | outgrown=>exact hp.elim
 | .exit id,K,r,_,m,st,M,a,w,hs,h=>wp_exit ⟨m,Nat.le_refl _,st,M,h,hs⟩
 | .scope b,K,r,hsub,m,st,M,a,w,hs,h=>by
  simp only [XC] at hs
  refine wp_scope_straight (wp_mono (GR H HI b K r (fun m x hx=>hsub m x (by simpa only [YD] using hx)) m st M a w hs h) ?_)
  intro e a w hp
  cases e with
  | goto l=>exact hp.elim
  | _=>exact hp
 | .ret,K,r,_,m,st,M,a,w,hs,h=>wp_ret ⟨m,Nat.le_refl _,st,M,h,hs⟩
 | .rangeFunc _ _ _ _,K,r,_,m,st,M,a,w,hs,h=>by simp only [XC] at hs;cases hs
 | .label _,K,r,_,m,st,M,a,w,hs,h=>by simp only [XC] at hs;cases hs
 | .goto _,K,r,_,m,st,M,a,w,hs,h=>by simp only [XC] at hs;cases hs
 | .refuse _,K,r,_,m,st,M,a,w,hs,h=>by simp only [XC] at hs;cases hs
end
end Go.Ab
