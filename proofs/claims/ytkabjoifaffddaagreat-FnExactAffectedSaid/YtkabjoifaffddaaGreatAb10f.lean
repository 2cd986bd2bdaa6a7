import Derived.Test.YtkabjoifaffddaaGreatAb10e
namespace Go.Ab
variable {R:Type}
section
variable {P:Program} {base:Base} {w0:Orig} {dp nn:Nat} {st:St} {θ:Nat→Nat→Value} {M M':Me} {a:Act} {w w':World}
def Me.free (M:Me) (base:Base) (c:Nat):Prop:=Own base c∧(∀ a,a.block=c→M.F a=none)∧(∀ d s n,M.μ d s≠some (c,n))∧(∀ k reg,M.τ k=some (some reg)→reg.g≠c)∧¬ M.mine c
theorem Rel.addD (h:Rel P base w0 dp st θ M w) {ty:Ty} {xs:List ty.den} {u:Value} {bs:List Nat} (hd:DeepD w (.list ty) xs [u] bs) (hn:bs.Nodup) (hfree:∀ c∈bs,M.free base c) :
  ∃ D',M.D.le D'∧Rel P base w0 dp (st.mintD ⟨ty,xs⟩) θ { M with D:=D' } w∧RelV { M with D:=D' } (.dr st.nd) u∧∀ c,Me.mine { M with D:=D' } c→M.mine c∨c∈bs:=by
 have hδ:∀ {q:Nat} {p:Value × List Nat},(if q=st.nd then some (u,bs) else M.D.δ q)=some p→(q=st.nd∧p=(u,bs))∨(q≠st.nd∧M.D.δ q=some p):=by
  intro q p hq
  split at hq
  ·rename_i e;exact .inl ⟨e,(Option.some.inj hq).symm⟩
  ·rename_i e;exact .inr ⟨e,hq⟩
 have hle:M.D.le ⟨fun q=>if q=st.nd then some (u,bs) else M.D.δ q,st.nd+1⟩:=by
  refine ⟨by show M.D.N≤st.nd+1;rw [h.dpi.N];omega,fun q u' bs' hlt hq=>?_⟩
  rw [h.dpi.N] at hlt
  rcases hδ hq with ⟨e,_⟩ | ⟨_,e⟩
  ·omega
  ·exact ⟨_,e⟩
 refine ⟨⟨fun q=>if q=st.nd then some (u,bs) else M.D.δ q,st.nd+1⟩,hle,h.newD (dr':=Qq4 st.dr st.nd (some ⟨ty,xs⟩)) (nd':=st.nd+1) hle (Nat.le_refl _) (fun _ _ _=>rfl) h.below ?_,.dr _ _ (Nat.lt_succ_self _) (hd.one u (by simp)) (fun u' bs' hq=>?_),fun c ⟨q,u',bs',hq,hc⟩=>?_⟩
 ·refine ⟨rfl,fun q hq=>?_,fun q b hq=>?_,fun q u' bs' hq=>?_,fun q u' bs' c hq hc=>?_,fun q q' u1 u2 b1 b2 c hq hq' hc hc'=>?_⟩
  ·rw [Zi _ _ _ _ (by omega)];exact h.dpi.far q (by omega)
  ·by_cases e:q=st.nd
   ·subst e
    rw [Ya] at hq
    cases hq
    exact ⟨u,bs,if_pos rfl,hd⟩
   ·rw [Zi _ _ _ _ e] at hq
    obtain ⟨u',bs',h1,h2⟩:=h.dpi.has q b hq
    exact ⟨u',bs',by simp only;rw [if_neg e];exact h1,h2⟩
  ·rcases hδ hq with ⟨_,e⟩ | ⟨_,e⟩
   ·cases e;exact hn
   ·exact h.dpi.nodup q u' bs' e
  ·rcases hδ hq with ⟨_,e⟩ | ⟨_,e⟩
   ·cases e
    obtain ⟨f1,f2,f3,f4,_⟩:=hfree c hc
    exact ⟨f1,hd.lt c hc,f2,f3,f4⟩
   ·exact h.dpi.blk q u' bs' c e hc
  ·rcases hδ hq with ⟨e1,e⟩ | ⟨e1,e⟩<;>rcases hδ hq' with ⟨e1',e'⟩ | ⟨e1',e'⟩
   ·exact e1.trans e1'.symm
   ·cases e;exact absurd ⟨q',u2,b2,e',hc'⟩ (hfree c hc).2.2.2.2
   ·cases e';exact absurd ⟨q,u1,b1,e,hc⟩ (hfree c hc').2.2.2.2
   ·exact h.dpi.sep q q' _ _ _ _ c e e' hc hc'
 ·rcases hδ hq with ⟨_,e⟩ | ⟨e,_⟩
  ·cases e;rfl
  ·exact absurd rfl e
 ·rcases hδ hq with ⟨_,e⟩ | ⟨_,e⟩
  ·cases e;exact .inr hc
  ·exact .inl ⟨q,u',bs',e,hc⟩
theorem QjA (h:Rel P base w0 dp st θ M w) {c:Nat} (hc:w.heap.size≤c):M.free base c:=by
 refine ⟨.inl (Nat.le_trans h.hb hc),fun a ha=>?_,fun d s n hm=>?_,fun k reg hk e=>?_,fun hm=>?_⟩
 ·cases hu:M.F a with
  | none=>rfl
  | some u=>have:=QtN h hu;omega
 ·have:=h.box_lt hm;omega
 ·obtain ⟨_,_,h3⟩:=h.tok k _ hk
  obtain ⟨_,_,_,cur,e',k4,_⟩:=h3 reg rfl
  have:=Gn k4;omega
 ·have:=h.dpi.lt hm;omega
theorem Qyr:∀ {vs:List V} {us:List Value},vs.all V.dpart0=true→RelL M vs us→Z1.DeepVL w vs us []
 | [],us,_,hr=>by
  have:us=[]:=List.eq_nil_of_length_eq_zero hr.len.symm
  subst this
  exact ⟨rfl,rfl⟩
 | v::vs,[],_,hr=>by have:=hr.len;simp at this
 | v::vs,u::us,hv,hr=>by
  simp only [List.all_cons,Bool.and_eq_true] at hv
  have hr':RelL M vs us:=⟨by simpa using hr.len,fun i c u hc hu=>hr.at_ (i+1) c u hc hu,fun x hx=>hr.one x (List.mem_cons_of_mem _ hx)⟩
  refine ⟨u,us,[],[],rfl,rfl,?_,Qyr hv.2 hr'⟩
  have h0:=hr.at_ 0 v u rfl rfl
  cases v with
  | nils=>cases h0;exact ⟨rfl,rfl⟩
  | d t x =>
   cases h0 with
   | d _ _ _ hd =>
    cases t with
    | int k=>exact ⟨hd,rfl⟩
    | bool=>exact ⟨hd,rfl⟩
    | str=>exact ⟨hd,rfl⟩
    | _=>simp [V.dpart0,V.scl] at hv
  | _=>simp [V.dpart0,V.scl] at hv
theorem QtU (h:Rel P base w0 dp st θ M w) {t:TypeId} {l c:V} {vl vc:Value} {K:V→Z9 R} {r:R} (hs:Qu9 P st t l c K=some r) (hl:RelV M l vl) (hc:RelV M c vc) :
  TurnsB P base w0 dp θ w K r (Instr.makeSlice t vl vc):=by
 unfold Qu9 at hs
 split at hs
 case h_2=>cases hs
 rename_i e he
 have ht:=Gm he
 split at hs
 case h_2=>cases hs
 rename_i ty hty
 split at hs
 case h_2=>cases hs
 rename_i zc hz
 split at hs
 case h_2=>cases hs
 rename_i z hzz
 split at hs
 case h_2=>cases hs
 rename_i n m
 obtain ⟨rfl,hn1⟩:=hl.int_inv
 obtain ⟨rfl,hm1⟩:=hc.int_inv
 obtain ⟨h0,hs2⟩:=Qn hs
 clear hs
 simp only [Bool.and_eq_true,decide_eq_true_eq] at h0
 obtain ⟨⟨⟨⟨⟨h1,h2⟩,h3⟩,h4⟩,h5⟩,h6⟩:=h0
 have hpos:0<ty.cells:=Nat.le_of_ble_eq_true h4
 obtain ⟨i,v,hi,hv,rfl,hone⟩:=Xs hz
 have hzr:RelL M (v.cells.toList.map WP) v.cells.toList:=QbO M _ (fun u hu=>hone u (by simpa using hu))
 obtain ⟨_,_,_,_,i',hi',hsz⟩:=JP hty
 rw [hi] at hi'
 cases hi'
 have hmx:=VZ.1 hn1
 rw [Ui] at hmx
 have hby:P.bytesOf e=i.bytes:=by simp [Program.bytesOf,hi]
 rw [hby,Xf] at h3
 have hrun:=run_make (P:=P) w t e i v ht hi hv .i64 .i64 n n h2 (Int.le_refl _) (by rw [Int.mul_comm];exact Int.le_trans h3 (by decide)) hmx.2
 subst h1
 rw [hsz] at hrun
 have hzl:v.cells.toList.length=ty.cells:=by
  have:=(V5 hzz hzr).len
  simpa using this
 have hcl:v.cells.size=ty.cells:=by simpa using hzl
 have hmaxn:Int.toNat n≤maxLen:=by unfold maxLen;omega
 have hnew:=heap_alloc_new w (.cells (madeCells v.cells (Int.toNat n*ty.cells)) e)
 have hal:=h.alloc (.cells (madeCells v.cells (Int.toNat n*ty.cells)) e)
 have hd:DeepD (w.alloc (.cells (madeCells v.cells (Int.toNat n*ty.cells)) e)) (.list ty) (List.replicate (Int.toNat n) z) [.slice (some ⟨w.heap.size,0,none⟩) (Int.toNat n) (Int.toNat n)] [w.heap.size]:=by
  refine ⟨some ⟨w.heap.size,0,none⟩,Int.toNat n,by rw [List.length_replicate],by rw [List.length_replicate];exact Nat.le_refl _,hmaxn,(fun e=>by cases e),.inr ⟨w.heap.size,0,_,e,List.replicate (Int.toNat n) [],rfl,hnew,by simp,by simp,by rw [size_madeCells];simp,fun j x bj hx hbj=>?_⟩⟩
  have hj:j<Int.toNat n:=by have:=(List.getElem?_eq_some_iff.1 hbj).1;simpa using this
  rw [List.getElem?_replicate,if_pos hj] at hbj
  rw [show (List.replicate (Int.toNat n) z)[j]? = some z by rw [List.getElem?_replicate,if_pos hj]] at hx
  cases hbj;cases hx
  have hrows:=(Wm (F:=M.F) (V5 hzz hzr) (Int.toNat n))
  have hcells:((madeCells v.cells (Int.toNat n*ty.cells)).toList.drop (0+j*ty.cells)).take ty.cells=v.cells.toList:=by
   rw [EM _ _ _ hcl,Nat.zero_add]
   have key:∀ (n j:Nat),j<n→(((List.replicate n v.cells.toList).flatten).drop (j*ty.cells)).take ty.cells=v.cells.toList:=by
    intro n
    induction n with
    | zero=>intro j hj;omega
    | succ n ih =>
     intro j hj
     rw [List.replicate_succ,List.flatten_cons]
     cases j with
     | zero=>rw [Nat.zero_mul,List.drop_zero,List.take_append,← hzl,List.take_length,Nat.sub_self,List.take_zero,List.append_nil]
     | succ j =>
      rw [Nat.succ_mul,List.drop_append,List.drop_of_length_le (by omega),List.nil_append,hzl,show j*ty.cells+ty.cells - ty.cells=j*ty.cells by omega]
      exact ih j (by omega)
   exact key _ j hj
  rw [hcells]
  exact UK h6 hzz (Qyr h5 hzr)
 obtain ⟨D',hle,hr,hv',_⟩:=hal.addD hd (by simp) (fun c hc=>by
  obtain rfl:=List.mem_singleton.1 hc
  exact QjA h (Nat.le_refl _))
 exact ⟨_,_,_,_,_,hs2,hrun,hr,hv',rfl,(BelowN.refl _ _).alloc (Nat.le_refl _) _⟩
theorem QqD:∀ (v:V) (st:St) (M:Me) (u:Value) (bs:List Nat),Rel P base w0 dp st θ M w→Z1 w v u bs→bs.Nodup→(∀ c∈bs,M.free base c) →
  ∃ D',M.D.le D'∧Rel P base w0 dp (JU v st).2 θ { M with D:=D' } w∧RelV { M with D:=D' } (JU v st).1 u∧(JU v st).1.le dp=true∧∀ c,Me.mine { M with D:=D' } c→M.mine c∨c∈bs:=by
 intro v
 apply V.rec (motive_1:=fun v=>∀ (st:St) (M:Me) (u:Value) (bs:List Nat),Rel P base w0 dp st θ M w→Z1 w v u bs→bs.Nodup→(∀ c∈bs,M.free base c) →
   ∃ D',M.D.le D'∧Rel P base w0 dp (JU v st).2 θ { M with D:=D' } w∧RelV { M with D:=D' } (JU v st).1 u∧(JU v st).1.le dp=true∧∀ c,Me.mine { M with D:=D' } c→M.mine c∨c∈bs)
  (motive_2:=fun cs=>∀ (st:St) (M:Me) (us:List Value) (bs:List Nat),Rel P base w0 dp st θ M w→Z1.DeepVL w cs us bs→bs.Nodup→(∀ c∈bs,M.free base c) →
   ∃ D',M.D.le D'∧Rel P base w0 dp (JU.mintL cs st).2 θ { M with D:=D' } w∧((JU.mintL cs st).1.length=us.length∧∀ (i:Nat) c u,(JU.mintL cs st).1[i]? = some c→us[i]? = some u→RelV { M with D:=D' } c u)∧V.le.leL dp (JU.mintL cs st).1=true∧∀ c,Me.mine { M with D:=D' } c→M.mine c∨c∈bs) (t:=v)
 case d =>
  intro t x st M u bs h hd hn hfree
  have same:RelV M (.d t x) u→∃ D',M.D.le D'∧Rel P base w0 dp st θ { M with D:=D' } w∧RelV { M with D:=D' } (.d t x) u∧(V.d t x).le dp=true∧∀ c,Me.mine { M with D:=D' } c→M.mine c∨c∈bs:=fun hr=>⟨M.D,.refl _,h,hr,rfl,fun _ hc=>.inl hc⟩
  cases t with
  | list t =>
   obtain ⟨D',k1,k2,k3,k4⟩:=h.addD (show DeepD w (.list t) x [u] bs from hd) hn hfree
   exact ⟨D',k1,k2,k3,rfl,k4⟩
  | int k=>exact same (.d _ _ _ hd.1)
  | bool=>exact same (.d _ _ _ hd.1)
  | str=>exact same (.d _ _ _ hd.1)
  | _=>exact ⟨M.D,.refl _,h,.any _,rfl,fun _ hc=>.inl hc⟩
 case agg =>
  intro cs ih st M u bs h hd hn hfree
  obtain ⟨arr,rfl,hd⟩:=hd
  unfold JU
  cases hall:cs.all V.isD with
  | false=>exact ⟨M.D,.refl _,h,.any _,rfl,fun _ hc=>.inl hc⟩
  | true =>
   obtain ⟨D',k1,k2,k3,k4,k5⟩:=ih st M _ bs h hd hn hfree
   refine ⟨D',k1,k2,.agg _ arr (by simpa using k3.1) (fun i c u hc hu=>k3.2 i c u hc (by simpa using hu)) ?_,k4,k5⟩
   have one:∀ (cs:List V) (us:List Value) (bs:List Nat),cs.all V.isD=true→Z1.DeepVL w cs us bs→∀ u∈us,u.oneCell'=true:=by
    intro cs
    induction cs with
    | nil=>rintro us bs _ ⟨rfl,rfl⟩ u hu;cases hu
    | cons c cs ih =>
     rintro us bs hall ⟨u0,us',b1,b2,rfl,rfl,h1,h2⟩ u hu
     simp only [List.all_cons,Bool.and_eq_true] at hall
     rcases List.mem_cons.1 hu with rfl | hu
     ·cases c with
      | d t x=>exact DeepD.one h1 u (by simp)
      | _=>simp [V.isD] at hall
     ·exact ih us' b2 hall.2 h2 u hu
   intro u hu
   exact one cs _ bs hall hd u (by simpa using hu)
 case tup =>
  intro cs ih st M u bs h hd hn hfree
  obtain ⟨arr,rfl,hd⟩:=hd
  obtain ⟨D',k1,k2,k3,k4,k5⟩:=ih st M _ bs h hd hn hfree
  exact ⟨D',k1,k2,.tup _ arr (by simpa using k3.1) (fun i c u hc hu=>k3.2 i c u hc (by simpa using hu)),k4,k5⟩
 case nil =>
  intro st M us bs h hd hn hfree
  obtain ⟨rfl,rfl⟩:=hd
  exact ⟨M.D,.refl _,h,⟨rfl,fun i c u hc=>by simp [JU.mintL] at hc⟩,rfl,fun _ hc=>.inl hc⟩
 case cons =>
  intro c cs ih1 ih2 st M us bs h hd hn hfree
  obtain ⟨u,us',b1,b2,rfl,rfl,hd1,hd2⟩:=hd
  obtain ⟨n1,n2,n3⟩:=List.nodup_append.1 hn
  obtain ⟨D1,k1,k2,k3,k4,k5⟩:=ih1 st M u b1 h hd1 n1 (fun c hc=>hfree c (List.mem_append_left _ hc))
  obtain ⟨D2,j1,j2,j3,j4,j5⟩:=ih2 _ _ us' b2 k2 hd2 n2 (fun c hc=>by
   obtain ⟨f1,f2,f3,f4,f5⟩:=hfree c (List.mem_append_right _ hc)
   refine ⟨f1,f2,f3,f4,fun hm=>?_⟩
   rcases k5 c hm with hm | hm
   ·exact f5 hm
   ·exact n3 c hm c hc rfl)
  have hM:Me.le dp { M with D:=D1 } { M with D:=D2 }:=⟨.refl _,fun _ _ _ _ h=>h,Nat.le_refl _,fun _ _ _ h=>h,j1⟩
  refine ⟨D2,k1.trans j1,j2,⟨by simp [JU.mintL,j3.1],fun i c' u' hc hu=>?_⟩,?_,fun c hc=>?_⟩
  ·cases i with
   | zero =>
    simp only [JU.mintL,List.getElem?_cons_zero,Option.some.injEq] at hc hu
    subst hc;subst hu
    exact k3.mono hM k4
   | succ i=>exact j3.2 i c' u' (by simpa [JU.mintL] using hc) (by simpa using hu)
  ·simp only [JU.mintL,V.le.leL,k4,j4,Bool.and_self]
  ·rcases j5 c hc with hc | hc
   ·rcases k5 c hc with hc | hc
    ·exact .inl hc
    ·exact .inr (List.mem_append_left _ hc)
   ·exact .inr (List.mem_append_right _ hc)
 case nils=>intro st M u bs h _ _ _;exact ⟨M.D,.refl _,h,.any _,rfl,fun _ hc=>.inl hc⟩
 all_goals
  intros
  rename_i hd _ _
  exact hd.elim
end
end Go.Ab
