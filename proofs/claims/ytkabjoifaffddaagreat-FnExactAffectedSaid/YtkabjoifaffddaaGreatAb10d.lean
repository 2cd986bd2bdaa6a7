import Derived.Test.YtkabjoifaffddaaGreatAb10m
namespace Go.Ab
variable {R:Type}
def Z1 (w:World):V→Value→List Nat→Prop
 | .d t x,u,bs=>DeepD w t x [u] bs
 | .nils,u,bs=>u=.slice none 0 0∧bs=[]
 | .agg cs,u,bs=>∃ arr,u=.agg arr∧DeepVL w cs arr.toList bs
 | .tup cs,u,bs=>∃ arr,u=.tuple arr∧DeepVL w cs arr.toList bs
 | _,_,_=>False
where DeepVL (w:World):List V→List Value→List Nat→Prop
 | [],us,bs=>us=[]∧bs=[]
 | c::cs,us,bs=>∃ u us' b1 b2,us=u::us'∧bs=b1++b2∧Z1 w c u b1∧DeepVL w cs us' b2
def QgD (w:World) (t:Ty) (x:t.den) (u:Value) (bs:List Nat):Prop :=
 match t.scalar with
 | true=>DeepD w t x [u] bs
 | false=>∃ arr,u=.agg arr∧DeepD w t x arr.toList bs
section
variable {w w':World}
theorem Qcp:∀ {vs vs':List V} {us us':List Value} {b b':List Nat},Z1.DeepVL w vs us b→Z1.DeepVL w vs' us' b'→Z1.DeepVL w (vs++vs') (us++us') (b++b')
 | [],vs',us,us',b,b',h,h'=>by obtain ⟨rfl,rfl⟩:=h;exact h'
 | c::cs,vs',us,us',b,b',⟨u,us1,b1,b2,e1,e2,h1,h2⟩,h'=>by
  subst e1;subst e2
  exact ⟨u,us1++us',b1,b2++b',rfl,by rw [List.append_assoc],h1,Qcp h2 h'⟩
theorem QdT:∀ {vs:List V} {us:List Value} {b:List Nat} (n:Nat),Z1.DeepVL w vs us b→∃ b1 b2,b=b1++b2∧Z1.DeepVL w (vs.take n) (us.take n) b1∧Z1.DeepVL w (vs.drop n) (us.drop n) b2
 | vs,us,b,0,h=>⟨[],b,rfl,⟨rfl,rfl⟩,h⟩
 | [],us,b,n+1,h=>by obtain ⟨rfl,rfl⟩:=h;exact ⟨[],[],rfl,⟨rfl,rfl⟩,⟨rfl,rfl⟩⟩
 | c::cs,us,b,n+1,⟨u,us1,b1,b2,e1,e2,h1,h2⟩=>by
  subst e1;subst e2
  obtain ⟨c1,c2,e,k1,k2⟩:=QdT n h2
  subst e
  exact ⟨b1++c1,c2,by rw [List.append_assoc],⟨u,_,b1,c1,rfl,rfl,h1,k1⟩,k2⟩
theorem QmA:∀ {vs:List V} {us:List Value} {b:List Nat},Z1.DeepVL w vs us b→vs.length=us.length
 | [],us,b,h=>by obtain ⟨rfl,rfl⟩:=h;rfl
 | c::cs,us,b,⟨u,us1,b1,b2,e1,e2,h1,h2⟩=>by subst e1;simp [QmA h2]
theorem Um:∀ {t:Ty} {x:t.den} {us:List Value} {bs:List Nat},DeepD w t x us bs→Z1.DeepVL w (Qm t x) us bs
 | .int k,x,us,bs,h=>by obtain ⟨⟨rfl,h1⟩,rfl⟩:=h;exact ⟨_,_,[],[],rfl,rfl,⟨⟨rfl,h1⟩,rfl⟩,rfl,rfl⟩
 | .bool,x,us,bs,h=>by obtain ⟨rfl,rfl⟩:=h;exact ⟨_,_,[],[],rfl,rfl,⟨rfl,rfl⟩,rfl,rfl⟩
 | .str,x,us,bs,h=>by obtain ⟨⟨s,rfl,h1⟩,rfl⟩:=h;exact ⟨_,_,[],[],rfl,rfl,⟨⟨s,rfl,h1⟩,rfl⟩,rfl,rfl⟩
 | .unit,x,us,bs,h=>h
 | .pair a b,x,us,bs,⟨c1,c2,b1,b2,h,h',h1,h2⟩=>by
  subst h;subst h'
  exact Qcp (Um h1) (Um h2)
 | .list t,x,us,bs,h=>by
  obtain ⟨a,cap,rfl,h1⟩:=h
  exact ⟨_,_,bs,[],rfl,(List.append_nil _).symm,⟨a,cap,rfl,h1⟩,rfl,rfl⟩
theorem Qjx:∀ {t:Ty} {x:t.den} {u:Value} {bs:List Nat},QgD w t x u bs→Z1 w (JO t x) u bs
 | .int k,x,u,bs,h=>h
 | .bool,x,u,bs,h=>h
 | .str,x,u,bs,h=>h
 | .list t,x,u,bs,h=>h
 | .unit,x,u,bs,h=>by obtain ⟨arr,rfl,h1,h2⟩:=h;exact ⟨arr,rfl,h1,h2⟩
 | .pair a b,x,u,bs,h=>by obtain ⟨arr,rfl,h⟩:=h;exact ⟨arr,rfl,Um h⟩
 | .map k v,x,u,bs,h=>h
 | .tree a,x,u,bs,h=>by obtain ⟨arr,rfl,h⟩:=h;exact h.elim
theorem Wn {t:Ty} (ht:t.dok=true) {x:t.den} {v:V} {u:Value} {bs:List Nat} (h:Gs t v=some x) (hr:Z1 w v u bs):DeepD w t x [u] bs:=by
 unfold Gs at h
 split at h
 ·exact hr.elim
 ·obtain ⟨rfl,rfl⟩:=hr
  simp only [Option.some.injEq] at h
  subst h
  exact ⟨none,0,rfl,Nat.le_refl _,Nat.zero_le _,fun _=>rfl,.inl ⟨rfl,rfl⟩⟩
 ·unfold cast? at h
  split at h
  ·rename_i e _
   subst e
   simp only [Option.some.injEq] at h
   subst h
   exact hr
  ·cases h
 ·cases h
theorem UK:∀ {t:Ty} {x:t.den} {vs:List V} {us:List Value} {bs:List Nat},t.dok=true→YN t vs=some x→Z1.DeepVL w vs us bs→DeepD w t x us bs
 | .pair a b,x,vs,us,bs,ht,h,hr=>by
  simp only [Ty.dok,Bool.and_eq_true] at ht
  simp only [YN] at h
  split at h
  ·rename_i y z hy hz
   simp only [Option.some.injEq] at h
   subst h
   obtain ⟨b1,b2,e,h1,h2⟩:=QdT a.cells hr
   exact ⟨us.take a.cells,us.drop a.cells,b1,b2,(List.take_append_drop _ _).symm,e,UK ht.1 hy h1,UK ht.2 hz h2⟩
  ·cases h
 | .unit,x,[],us,bs,_,h,hr=>hr
 | .unit,x,_::_,us,bs,_,h,hr=>by simp [YN] at h
 | .int k,x,[],us,bs,_,h,hr=>by simp [YN] at h
 | .int k,x,[v],us,bs,ht,h,hr=>by
  obtain ⟨u,us1,b1,b2,rfl,rfl,h1,rfl,rfl⟩:=hr
  rw [List.append_nil]
  exact Wn ht (by simpa [YN] using h) h1
 | .int k,x,_::_::_,us,bs,_,h,hr=>by simp [YN] at h
 | .bool,x,[],us,bs,_,h,hr=>by simp [YN] at h
 | .bool,x,[v],us,bs,ht,h,hr=>by
  obtain ⟨u,us1,b1,b2,rfl,rfl,h1,rfl,rfl⟩:=hr
  rw [List.append_nil]
  exact Wn ht (by simpa [YN] using h) h1
 | .bool,x,_::_::_,us,bs,_,h,hr=>by simp [YN] at h
 | .str,x,[],us,bs,_,h,hr=>by simp [YN] at h
 | .str,x,[v],us,bs,ht,h,hr=>by
  obtain ⟨u,us1,b1,b2,rfl,rfl,h1,rfl,rfl⟩:=hr
  rw [List.append_nil]
  exact Wn ht (by simpa [YN] using h) h1
 | .str,x,_::_::_,us,bs,_,h,hr=>by simp [YN] at h
 | .list t,x,[],us,bs,_,h,hr=>by simp [YN] at h
 | .list t,x,[v],us,bs,ht,h,hr=>by
  obtain ⟨u,us1,b1,b2,rfl,rfl,h1,rfl,rfl⟩:=hr
  rw [List.append_nil]
  exact Wn ht (by simpa [YN] using h) h1
 | .list t,x,_::_::_,us,bs,_,h,hr=>by simp [YN] at h
theorem QhK {t : Ty} (ht : t.dok = true) {x : t.den} {v : V} {u : Value} {bs : List Nat} (h : Y1 t v = some x) (hr : Z1 w v u bs) : QgD w t x u bs := by
  cases t with
  | pair a b =>
    cases v <;> first
      | (simp [Y1] at h; done)
      | (obtain ⟨arr, rfl, hl⟩ := hr
         exact ⟨arr, rfl, UK ht h hl⟩)
  | unit =>
    cases v <;> first
      | (simp [Y1] at h; done)
      | (obtain ⟨arr, rfl, hl⟩ := hr
         exact ⟨arr, rfl, UK ht h hl⟩)
  | tree a => cases ht
  | map k e => cases ht
  | int k => exact Wn (t := .int k) ht h hr
  | bool => exact Wn (t := .bool) ht h hr
  | str => exact Wn (t := .str) ht h hr
  | list t => exact Wn (t := .list t) ht h hr
theorem Qwm:∀ (v:V) (u:Value) (bs:List Nat),Z1 w v u bs→(∀ c∈bs,w'.heap[c]? = w.heap[c]?)→Z1 w' v u bs:=by
 intro v
 apply V.rec (motive_1:=fun v=>∀ (u:Value) (bs:List Nat),Z1 w v u bs→(∀ c∈bs,w'.heap[c]? = w.heap[c]?)→Z1 w' v u bs)
  (motive_2:=fun cs=>∀ (us:List Value) (bs:List Nat),Z1.DeepVL w cs us bs→(∀ c∈bs,w'.heap[c]? = w.heap[c]?)→Z1.DeepVL w' cs us bs) (t:=v)
 case d=>intro t x u bs h hb;exact DeepD.stays h hb
 case nils=>intro u bs h _;exact h
 case agg=>intro cs ih u bs ⟨arr,e,h⟩ hb;exact ⟨arr,e,ih _ _ h hb⟩
 case tup=>intro cs ih u bs ⟨arr,e,h⟩ hb;exact ⟨arr,e,ih _ _ h hb⟩
 case nil=>intro us bs h _;exact h
 case cons =>
  intro c cs ih1 ih2 us bs ⟨u,us',b1,b2,e1,e2,h1,h2⟩ hb
  exact ⟨u,us',b1,b2,e1,e2,ih1 _ _ h1 (fun c hc=>hb c (by rw [e2];exact List.mem_append_left _ hc)),ih2 _ _ h2 (fun c hc=>hb c (by rw [e2];exact List.mem_append_right _ hc))⟩
 all_goals intros;rename_i h _;exact h.elim
end
def Me.blk (M:Me):List Nat→List Nat
 | []=>[]
 | k::l=>(match M.D.δ k with
  | some (_,bs)=>bs
  | none=>[])++M.blk l
theorem QmB (M:Me):∀ (l l':List Nat),M.blk (l++l')=M.blk l++M.blk l'
 | [],_=>rfl
 | k::l,l'=>by simp only [List.cons_append,Me.blk,QmB M l l',List.append_assoc]
theorem QaA {M:Me} {c:Nat}:∀ {l:List Nat},c∈M.blk l→∃ k u bs,k∈l∧M.D.δ k=some (u,bs)∧c∈bs
 | [],h=>by cases h
 | k::l,h=>by
  rcases List.mem_append.1 h with h | h
  ·split at h
   ·rename_i u bs hk;exact ⟨k,u,bs,by simp,hk,h⟩
   ·cases h
  ·obtain ⟨k',u,bs,h1,h2,h3⟩:=QaA h
   exact ⟨k',u,bs,List.mem_cons_of_mem _ h1,h2,h3⟩
theorem Qjy {M:Me} {c:Nat} {l:List Nat} (h:c∈M.blk l):M.mine c :=
 let ⟨k,u,bs,_,h1,h2⟩:=QaA h;⟨k,u,bs,h1,h2⟩
theorem EZ:∀ {l:List Nat},Qgf l=true↔l.Nodup
 | []=>by simp [Qgf]
 | k::l=>by
  simp only [Qgf,Bool.and_eq_true,Bool.not_eq_true',List.nodup_cons,EZ (l:=l)]
  refine and_congr_left fun _=>?_
  rw [Bool.eq_false_iff,ne_eq,List.any_eq_true]
  constructor
  ·intro h hm;exact h ⟨k,hm,Nat.beq_refl k⟩
  ·rintro h ⟨x,hx,e⟩
   rw [Nat.eq_of_beq_eq_true e] at h
   exact h hx
section
variable {P:Program} {base:Base} {w0:Orig} {dp nn:Nat} {st:St} {θ:Nat→Nat→Value} {M M':Me} {a:Act} {w w':World}
theorem DpInv.blk_nodup {dr:Nat→Option RBox} {nd:Nat} (h:DpInv base dr nd M w):∀ {l:List Nat},l.Nodup→(M.blk l).Nodup
 | [],_=>List.nodup_nil
 | k::l,hl=>by
  obtain ⟨h1,h2⟩:=List.nodup_cons.1 hl
  refine List.nodup_append.2 ⟨?_,h.blk_nodup h2,?_⟩
  ·split
   ·rename_i u bs hk;exact h.nodup k u bs hk
   ·exact List.nodup_nil
  ·intro c hc c' hc' e
   subst e
   split at hc
   ·rename_i u bs hk
    obtain ⟨k',u',bs',q1,q2,q3⟩:=QaA hc'
    have:=h.sep k k' u u' bs bs' c hk q2 hc q3
    subst this
    exact h1 q1
   ·cases hc
theorem QhL (h:DpInv base st.dr st.nd M w) {v:V} {u:Value} (hv:v.dpart st=true) (hr:RelV M v u):Z1 w (st.res v) u (M.blk v.drs)∧u.oneCell'=true:=by
 cases v with
 | dr k =>
  simp only [V.dpart] at hv
  obtain ⟨b,hb⟩:=Option.isSome_iff_exists.1 hv
  obtain ⟨u',bs,h1,h2⟩:=h.has k b hb
  obtain rfl:=hr.dr_inv.2 u' bs h1
  obtain ⟨t,xs⟩:=b
  simp only [St.res,hb,V.drs,Me.blk,h1,List.append_nil]
  exact ⟨h2,h2.one u (by simp)⟩
 | nils=>cases hr;exact ⟨⟨rfl,rfl⟩,rfl⟩
 | d t x =>
  cases hr with
  | d _ _ _ hd =>
   cases t with
   | int k=>exact ⟨⟨hd,rfl⟩,hd.one u (by simp)⟩
   | bool=>exact ⟨⟨hd,rfl⟩,hd.one u (by simp)⟩
   | str=>exact ⟨⟨hd,rfl⟩,hd.one u (by simp)⟩
   | _=>simp [V.dpart,V.dpart0,V.scl] at hv
 | _=>simp [V.dpart,V.dpart0,V.scl] at hv
theorem QcI (h:DpInv base st.dr st.nd M w):∀ {vs:List V} {us:List Value},vs.all (V.dpart st)=true→RelL M vs us→Z1.DeepVL w (St.res.resL st vs) us (M.blk (V.drs.drsL vs))
 | [],us,_,hr=>by
  have:us=[]:=List.eq_nil_of_length_eq_zero hr.len.symm
  subst this
  exact ⟨rfl,rfl⟩
 | v::vs,[],_,hr=>by have:=hr.len;simp at this
 | v::vs,u::us,hv,hr=>by
  simp only [List.all_cons,Bool.and_eq_true] at hv
  have hr':RelL M vs us:=⟨by simpa using hr.len,fun i c u hc hu=>hr.at_ (i+1) c u hc hu,fun x hx=>hr.one x (List.mem_cons_of_mem _ hx)⟩
  exact ⟨u,us,_,_,rfl,by simp only [V.drs.drsL];exact QmB M _ _,(QhL h hv.1 (hr.at_ 0 v u rfl rfl)).1,QcI h hv.2 hr'⟩
theorem Qsl (h:DpInv base st.dr st.nd M w) {v:V} {u:Value} (hv:v.cellsOf.all (V.dpart st)=true) (hr:RelV M v u):RelL M v.cellsOf u.cells.toList:=by
 have one:v.dpart st=true→RelL M [v] u.cells.toList:=fun hd=>by
  have h1:=(QhL h hd hr).2
  rw [Qpn h1];exact .cons hr h1 (.nil M)
 cases v with
 | agg cs=>obtain ⟨arr,rfl,hl⟩:=hr.aggL;exact hl
 | _=>exact one (by simpa [V.cellsOf] using hv)
theorem Rel.newD (h:Rel P base w0 dp st θ M w) {D':Dp} {dr':Nat→Option RBox} {nd':Nat} (hle:M.D.le D') (hsz:w.heap.size≤w'.heap.size) (hblk:∀ c,¬ M.mine c→c<w.heap.size→w'.heap[c]? = w.heap[c]?) (hbelow:BelowB base w0.w w')
  (hdpi:DpInv base dr' nd' { M with D:=D' } w'):Rel P base w0 dp { st with dr:=dr',nd:=nd' } θ { M with D:=D' } w':=by
 have hM:∀ n,M.le n { M with D:=D' }:=fun n=>⟨.refl _,fun _ _ _ _ h=>h,Nat.le_refl _,fun _ _ _ h=>h,hle⟩
 refine ⟨?_,fun d t hd=>(h.tm d t hd).mono (hM d) (h.le d t hd),h.le,?_,h.deep,h.sep,h.Fbox,?_,h.live,h.tsep,h.tbox,h.N,h.lv,Nat.le_trans h.hb hsz,hbelow,h.F0,h.Fnew,h.gl,?_,hdpi⟩
 ·intro ad u hu
  have hn:¬ M.mine ad.block:=fun hm=>by rw [h.dpi.F hm rfl] at hu;cases hu
  exact (h.F ad u hu).block (hblk _ hn (QtN h hu))
 ·intro d s hd
  have hb:=h.bx d s hd
  have key:∀ {b n:Nat},M.μ d s=some (b,n)→w'.heap[b]? = w.heap[b]?:=fun hm=>hblk _ (fun hc=>h.dpi.box hc hm rfl) (h.box_lt hm)
  show match st.bx d s with | .none=>_ | .cells cs=>_ | .rows ty xs=>_ | .map k v es=>_
  split at hb
  ·rename_i e;rw [e];exact hb
  ·rename_i cs e
   obtain ⟨b,T,arr,h1,h2,h3,h4,h5⟩:=hb
   rw [e]
   exact ⟨b,T,arr,h1,h2,by rw [key h1];exact h3,h4.mono (hM d) h5,h5⟩
  ·rename_i ty xs e
   obtain ⟨b,T,arr,h1,h2,h3,h4⟩:=hb
   rw [e]
   exact ⟨b,T,arr,h1,h2,by rw [key h1];exact h3,h4⟩
  ·rename_i k v es e
   obtain ⟨b,ms,c,h1,h2,h3,h4⟩:=hb
   rw [e]
   exact ⟨b,ms,c,h1,h2,by rw [key h1];exact h3,h4⟩
 ·intro k o ho
  obtain ⟨h1,h2,h3⟩:=h.tok k o ho
  refine ⟨h1,h2,fun reg hr=>?_⟩
  obtain ⟨k1,k2,k3,cur,e,k4,k5⟩:=h3 reg hr
  subst hr
  exact ⟨k1,k2,k3,cur,e,by rw [hblk _ (fun hc=>h.dpi.reg hc ho rfl) (Gn k4)];exact k4,k5⟩
 ·intro k b hk
  obtain ⟨h1,h2,h3⟩:=h.rw k b hk
  refine ⟨h1,h2,fun reg hr=>?_⟩
  obtain ⟨k1,k2,k3,cur,e,k4,k5⟩:=h3 reg hr
  exact ⟨k1,k2,k3,cur,e,by rw [hblk _ (fun hc=>h.dpi.reg hc hr rfl) (Gn k4)];exact k4,k5⟩
end
end Go.Ab
