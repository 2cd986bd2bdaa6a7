import Derived.Test.YtkabjoifaffddaaGreatAb7
namespace Go.Ab
variable {R:Type}
structure RowsRel (F:Snap) (ty:Ty) (xs:List ty.den) (cs:List Value):Prop where
 len:cs.length=xs.length*ty.cells
 at_:∀ (i:Nat) (x:ty.den),xs[i]? = some x→RelD F ty x ((cs.drop (i*ty.cells)).take ty.cells)
theorem RowsRel.mono {F F':Snap} (hF:F.le F') {ty:Ty} {xs:List ty.den} {cs:List Value} (h:RowsRel F ty xs cs):RowsRel F' ty xs cs:=⟨h.len,fun i x hx=>(h.at_ i x hx).mono hF⟩
theorem RowsRel.nil (F:Snap) (ty:Ty):RowsRel F ty [] []:=⟨by simp,fun i x hx=>by simp at hx⟩
theorem RowsRel.append {F:Snap} {ty:Ty} {xs ys:List ty.den} {cs ds:List Value} (h:RowsRel F ty xs cs) (h':RowsRel F ty ys ds):RowsRel F ty (xs++ys) (cs++ds):=by
 refine ⟨by rw [List.length_append,List.length_append,h.len,h'.len,Nat.add_mul],fun i x hx=>?_⟩
 by_cases hi:i<xs.length
 ·rw [List.getElem?_append_left hi] at hx
  have:=h.at_ i x hx
  have hle:i*ty.cells+ty.cells≤cs.length:=by
   rw [h.len,← Nat.succ_mul];exact Nat.mul_le_mul_right _ hi
  rw [List.drop_append_of_le_length (by omega),List.take_append_of_le_length (by rw [List.length_drop];omega)]
  exact this
 ·rw [List.getElem?_append_right (by omega)] at hx
  have:=h'.at_ _ x hx
  have e:i*ty.cells=cs.length+(i - xs.length)*ty.cells:=by
   rw [h.len,← Nat.add_mul];congr 1;omega
  rw [e,List.drop_append,List.drop_of_length_le (by omega)]
  simpa using this
theorem RowsRel.one {F:Snap} {ty:Ty} {x:ty.den} {cs:List Value} (h:RelD F ty x cs):RowsRel F ty [x] cs:=by
 refine ⟨by rw [h.len];simp,fun i y hy=>?_⟩
 cases i with
 | zero =>
  simp only [List.getElem?_cons_zero,Option.some.injEq] at hy
  subst hy
  rw [Nat.zero_mul,List.drop_zero,← h.len,List.take_length]
  exact h
 | succ i=>simp at hy
theorem RowsRel.set {F:Snap} {ty:Ty} {xs:List ty.den} {cs:List Value} (h:RowsRel F ty xs cs) {i:Nat} (hi:i<xs.length) {x:ty.den} {vs:List Value} (hx:RelD F ty x vs) :
  RowsRel F ty (xs.set i x) (cs.take (i*ty.cells)++vs++cs.drop (i*ty.cells+vs.length)):=by
 have hfit:i*ty.cells+ty.cells≤cs.length:=by
  rw [h.len,← Nat.succ_mul];exact Nat.mul_le_mul_right _ hi
 have hvl:=hx.len
 refine ⟨by simp [hvl];rw [h.len] at hfit ⊢;omega,fun j y hy=>?_⟩
 rw [List.getElem?_set] at hy
 by_cases e:i=j
 ·subst e
  rw [if_pos rfl,if_pos hi] at hy
  simp only [Option.some.injEq] at hy
  subst hy
  rw [List.append_assoc,List.drop_append_of_le_length (by simp;omega),List.drop_of_length_le (by simp;omega),List.nil_append,← hvl,List.take_left]
  exact hx
 ·rw [if_neg e] at hy
  have hj:=h.at_ j y hy
  have hjl:j<xs.length:=(List.getElem?_eq_some_iff.1 hy).1
  have hsame:((cs.take (i*ty.cells)++vs++cs.drop (i*ty.cells+vs.length)).drop (j*ty.cells)).take ty.cells=(cs.drop (j*ty.cells)).take ty.cells:=by
   apply List.ext_getElem?
   intro k
   rw [List.getElem?_take,List.getElem?_take]
   split
   ·rename_i hk
    rw [List.getElem?_drop,List.getElem?_drop]
    rcases Nat.lt_or_gt_of_ne e with h1 | h1
    ·have h2:i*ty.cells+ty.cells≤j*ty.cells:=by rw [← Nat.succ_mul];exact Nat.mul_le_mul_right _ h1
     rw [List.getElem?_append_right (by simp;omega),List.getElem?_drop]
     congr 1
     simp
     omega
    ·have h2:j*ty.cells+ty.cells≤i*ty.cells:=by rw [← Nat.succ_mul];exact Nat.mul_le_mul_right _ h1
     rw [List.getElem?_append_left (by simp;omega),List.getElem?_append_left (by simp;omega),List.getElem?_take,if_pos (by omega)]
   ·rfl
  rw [hsame]
  exact hj
theorem EM (z:Array Value) (n s:Nat) (h:z.size=s):(madeCells z (n*s)).toList=(List.replicate n z.toList).flatten:=by
 apply List.ext_getElem?
 intro k
 have hl:(madeCells z (n*s)).toList.length=n*s:=by simp [madeCells]
 have hr:((List.replicate n z.toList).flatten).length=n*s:=by simp [h]
 by_cases hk:k<n*s
 ·have hs:0<s:=by
   rcases Nat.eq_zero_or_pos s with h0 | h0
   ·subst h0;simp at hk
   ·exact h0
  have h1:(madeCells z (n*s)).toList[k]? = some (z[k % s]!):=by
   simp [madeCells,hk,h]
  rw [h1]
  have gen:∀ n k,k<n*s→((List.replicate n z.toList).flatten)[k]? = some (z[k % s]!):=by
   intro n
   induction n with
   | zero=>intro k hk;simp at hk
   | succ n ih =>
    intro k hk
    rw [List.replicate_succ,List.flatten_cons]
    by_cases hks:k<s
    ·rw [List.getElem?_append_left (by simpa [h] using hks),Nat.mod_eq_of_lt hks]
     have:k<z.size:=by omega
     simp [this]
    ·rw [List.getElem?_append_right (by simp [h];omega)]
     have e:k - z.toList.length=k - s:=by simp [h]
     rw [e,ih (k - s) (by rw [Nat.succ_mul] at hk;omega)]
     congr 2
     rw [Nat.mod_eq_sub_mod (by omega:k ≥ s)]
  exact (gen n k hk).symm
 ·rw [List.getElem?_eq_none (by omega),List.getElem?_eq_none (by omega)]
theorem Wm {F:Snap} {ty:Ty} {z:ty.den} {cs:List Value} (h:RelD F ty z cs):∀ n:Nat,RowsRel F ty (List.replicate n z) (List.replicate n cs).flatten
 | 0=>.nil F ty
 | n+1=>by
  rw [List.replicate_succ,List.replicate_succ,List.flatten_cons]
  exact (RowsRel.one h).append (Wm h n)
theorem RowsRel.slice {F:Snap} {ty:Ty} {xs:List ty.den} {cs:List Value} (h:RowsRel F ty xs cs) {g o cap:Nat} (hF:∀ (j:Nat) (u:Value),cs[j]? = some u→F ⟨g,o+j,none⟩=some u) (hc:xs.length≤cap) (hm:cap≤maxLen) :
  RelD F (.list ty) xs [.slice (some ⟨g,o,none⟩) xs.length cap]:=by
 refine ⟨some ⟨g,o,none⟩,cap,rfl,hc,hm,fun e=>(by cases e),fun b hb=>?_⟩
 cases hb
 refine fun i x hx=>⟨rfl,_,h.at_ i x hx,fun j u hu=>?_⟩
 rw [List.getElem?_take] at hu
 split at hu
 ·rw [List.getElem?_drop] at hu
  have:=hF _ u hu
  simp only at this ⊢
  rwa [← Nat.add_assoc] at this
 ·cases hu
theorem RelD.row {F:Snap} {ty:Ty} {xs:List ty.den} {ad:Addr} {n cap:Nat} (h:RelD F (.list ty) xs [.slice (some ad) n cap]):n=xs.length∧(xs≠[]→ad.spot=none)∧∃ cs,RowsRel F ty xs cs∧∀ (j:Nat) (u:Value),cs[j]? = some u→F ⟨ad.block,ad.off+j,none⟩=some u:=by
 obtain ⟨a,c,hv,h1,h2,h3,h4⟩:=h
 simp only [List.cons.injEq,Value.slice.injEq,and_true] at hv
 obtain ⟨rfl,rfl,rfl⟩:=hv
 have hel:=fun i x hx=>(h4 ad rfl i x hx).2
 have hsp:(xs≠[]→ad.spot=none):=by
  intro hne
  cases xs with
  | nil=>exact absurd rfl hne
  | cons x0 _=>exact (h4 ad rfl 0 x0 rfl).1
 refine ⟨rfl,hsp,?_⟩
 clear h1 h2 h3 h4
 have gen:∀ (ys:List ty.den) (k:Nat),(∀ (i:Nat) (x:ty.den),ys[i]? = some x→∃ es,RelD F ty x es∧∀ (j:Nat) (u:Value),es[j]? = some u→F ⟨ad.block,ad.off+(k+i)*ty.cells+j,none⟩=some u) →
   ∃ cs,RowsRel F ty ys cs∧∀ (j:Nat) (u:Value),cs[j]? = some u→F ⟨ad.block,ad.off+k*ty.cells+j,none⟩=some u:=by
  intro ys
  induction ys with
  | nil=>intro k _;exact ⟨[],.nil F ty,fun j u hu=>by simp at hu⟩
  | cons y ys ih =>
   intro k hk
   obtain ⟨es,he,hes⟩:=hk 0 y rfl
   obtain ⟨cs,hc,hcs⟩:=ih (k+1) (fun i x hx=>by
    obtain ⟨es,h1,h2⟩:=hk (i+1) x (by simpa using hx)
    refine ⟨es,h1,fun j u hu=>?_⟩
    have:=h2 j u hu
    rwa [show k+(i+1)=k+1+i by omega] at this)
   refine ⟨es++cs,(RowsRel.one he).append hc,fun j u hu=>?_⟩
   by_cases hj:j<es.length
   ·rw [List.getElem?_append_left hj] at hu
    have:=hes j u hu
    rwa [Nat.add_zero] at this
   ·rw [List.getElem?_append_right (by omega)] at hu
    have:=hcs _ u hu
    have hl:=he.len
    rw [show ad.off+(k+1)*ty.cells+(j - es.length)=ad.off+k*ty.cells+j by rw [Nat.succ_mul];omega] at this
    exact this
 obtain ⟨cs,h1,h2⟩:=gen xs 0 (fun i x hx=>by
  obtain ⟨es,h1,h2⟩:=hel i x hx
  exact ⟨es,h1,fun j u hu=>by rw [Nat.zero_add];exact h2 j u hu⟩)
 exact ⟨cs,h1,fun j u hu=>by have:=h2 j u hu;rwa [Nat.zero_mul,Nat.add_zero] at this⟩
theorem RowsRel.ones {F:Snap} {ty:Ty}:∀ {xs:List ty.den} {cs:List Value},RowsRel F ty xs cs→∀ u∈cs,u.oneCell'=true:=by
 intro xs cs h u hu
 obtain ⟨k,hk⟩:=List.getElem?_of_mem hu
 have hkl:k<cs.length:=(List.getElem?_eq_some_iff.1 hk).1
 have hl:=h.len
 have hpos:0<ty.cells:=by
  rcases Nat.eq_zero_or_pos ty.cells with h0 | h0
  ·rw [h0,Nat.mul_zero] at hl;omega
  ·exact h0
 have hi:k / ty.cells<xs.length:=by
  rw [Nat.div_lt_iff_lt_mul hpos];omega
 have hx:=h.at_ (k / ty.cells) _ (List.getElem?_eq_getElem hi)
 have hdm:=Nat.div_add_mod k ty.cells
 have hml:=Nat.mod_lt k hpos
 refine hx.one u (List.mem_of_getElem? (i:=k % ty.cells) ?_)
 rw [List.getElem?_take,if_pos hml,List.getElem?_drop,Nat.mul_comm,hdm]
 exact hk
section
variable {P:Program} {base:Base} {w0:Orig} {dp nn:Nat} {st:St} {θ:Nat→Nat→Value} {M M':Me} {a:Act} {w w':World}
theorem Qpp {F:Snap} {g:Nat} {xs:List Value} {j:Nat} {u:Value} (h:xs[j]? = some u):(F.cells g xs) ⟨g,j,none⟩=some u:=by
 have hj:j<xs.length:=(List.getElem?_eq_some_iff.1 h).1
 unfold Snap.cells
 rw [if_pos ⟨rfl,rfl,hj⟩]
 exact h
theorem Rel.newSlice (h:Rel P base w0 dp st θ M w) {ty:Ty} {xs:List ty.den} {cs:List Value} (hrow:RowsRel M.F ty xs cs) (cur:Array Value) (e:TypeId) {cap:Nat} (hcur:cur.size=cap*ty.cells) (hpre:cur.toList.take cs.length=cs)
  (hc:xs.length≤cap) (hm:cap≤maxLen) (spent:Option Nat) (hspent:∀ k,spent=some k→st.lv k=true) :
  Rel P base w0 dp (st.minted spent) θ (M.mint (M.F.cells w.heap.size cs) spent (some ⟨w.heap.size,cap,xs.length,ty.cells⟩)) (w.alloc (.cells cur e)) ∧
   RelV (M.mint (M.F.cells w.heap.size cs) spent (some ⟨w.heap.size,cap,xs.length,ty.cells⟩)) (.own st.nt ty xs) (.slice (some ⟨w.heap.size,0,none⟩) xs.length cap):=by
 have hnew:=heap_alloc_new w (.cells cur e)
 have hold:∀ k,k<w.heap.size→(w.alloc (.cells cur e)).heap[k]? = w.heap[k]?:=fun k hk=>heap_alloc_old w _ k hk
 have hFle:M.F.le (M.F.cells w.heap.size cs):=by
  intro ad u hu
  have:=QtN h hu
  simp only [Snap.cells]
  rw [if_neg (by omega)]
  exact hu
 have hFn:∀ ad,ad.block≠w.heap.size→(M.F.cells w.heap.size cs) ad=M.F ad:=by
  intro ad hne
  simp only [Snap.cells]
  rw [if_neg (fun e=>hne e.1)]
 have hpre':∀ (j:Nat) (u:Value),cs[j]? = some u→cur[j]? = some u:=by
  intro j u hu
  rw [← hpre,List.getElem?_take] at hu
  split at hu
  ·simpa using hu
  ·cases hu
 refine ⟨h.mint hFle spent _ hspent ?_ ?_ (fun d s b n hm=>hold b (h.box_lt hm)) ?_ ?_ (by simp) (h.below.alloc h.hb _) ?_ ?_ (fun c hc=>?_),?_⟩
 rotate_right
 ·have hrow':=hrow.mono hFle
  refine .own _ _ _ _ ?_ (by simp only [Me.mint];rw [h.N];omega) ?_
  ·exact hrow'.slice (o:=0) (fun j u hu=>by rw [Nat.zero_add];exact Qpp hu) hc hm
  ·intro o ho
   simp only [Me.mint] at ho
   rw [if_pos h.N.symm] at ho
   cases ho
   exact ⟨0,⟨w.heap.size,0,none⟩,rfl,fun _=>by simp,by simp,Nat.zero_le _,rfl⟩
 ·intro ad u hu
  by_cases he:ad.block=w.heap.size∧ad.spot=none∧ad.off<cs.length
  ·simp only [Snap.cells] at hu
   rw [if_pos he] at hu
   refine .of he.2.1 ?_
   obtain ⟨g,o,sp⟩:=ad
   obtain ⟨rfl,rfl,_⟩:=he
   rw [V6 hnew]
   exact hpre' o u hu
  ·simp only [Snap.cells] at hu
   rw [if_neg he] at hu
   have:=h.F ad u hu
   exact this.block (hold _ (QtN h hu))
 ·intro d s b n ad hm hb
  have:=h.box_lt hm
  rw [hFn ad (by omega)]
  exact h.Fbox d s b n ad hm hb
 ·intro k r hk _
  obtain ⟨_,_,h3⟩:=h.tok k _ hk
  obtain ⟨_,_,_,cur',e',k4,_,k6⟩:=h3 r rfl
  have:=Gn k4
  exact ⟨hold _ this,fun ad hb ho=>by rw [hFn ad (by omega)];exact k6 ad hb ho⟩
 ·intro r hr
  cases hr
  refine ⟨.inl h.hb,hc,hm,⟨cur,e,hnew,hcur,fun ad hb ho=>?_⟩,?_,?_⟩
  ·simp only at hb ho
   simp only [Snap.cells]
   rw [if_neg (by rw [hrow.len];omega)]
   cases hu:M.F ad with
   | none=>rfl
   | some u=>have:=QtN h hu;omega
  ·intro k r' hk _
   obtain ⟨_,_,h3⟩:=h.tok k _ hk
   obtain ⟨_,_,_,cur',e',k4,_⟩:=h3 r' rfl
   have:=Gn k4
   simp only;omega
  ·intro d s b n hm
   have:=h.box_lt hm
   simp only;omega
 ·intro ad u hu
  by_cases he:ad.block=w.heap.size
  ·exact .inr (by rw [he];exact .inl h.hb)
  ·rw [hFn ad he] at hu;exact .inl hu
 ·intro k r ad hk _ hb hf
  obtain ⟨_,_,h3⟩:=h.tok k _ hk
  obtain ⟨_,_,_,cur',e',k4,_⟩:=h3 r rfl
  have:=Gn k4
  rw [hFn ad (by omega)];exact hf
 ·have hlt:=h.dpi.lt hc
  exact ⟨hold c hlt,fun a ha=>by rw [hFn a (by omega)];exact h.dpi.F hc ha,fun r hr=>by cases hr;simp only;omega⟩
theorem Rel.newNil (h:Rel P base w0 dp st θ M w) (ty:Ty) (spent:Option Nat) (hspent:∀ k,spent=some k→st.lv k=true) :
  Rel P base w0 dp (st.minted spent) θ (M.mint M.F spent none) w∧RelV (M.mint M.F spent none) (.own st.nt ty []) (.slice none 0 0):=by
 refine ⟨h.mint (.refl _) spent _ hspent h.F (fun d s b n ad hm hb=>h.Fbox d s b n ad hm hb) (fun _ _ _ _ _=>rfl) ?_ (fun r hr=>by cases hr) (Nat.le_refl _) h.below (fun _ _ h=>.inl h) (fun _ _ _ _ _ _ h=>h) (fun c hc=>⟨rfl,fun a ha=>h.dpi.F hc ha,fun r hr=>by cases hr⟩),?_⟩
 ·intro k r hk _
  obtain ⟨_,_,h3⟩:=h.tok k _ hk
  obtain ⟨_,_,_,cur',e',k4,_,k6⟩:=h3 r rfl
  exact ⟨rfl,k6⟩
 ·refine .own _ _ _ _ (QcE _ _) (by simp only [Me.mint];rw [h.N];omega) ?_
  intro o ho
  simp only [Me.mint] at ho
  rw [if_pos h.N.symm] at ho
  cases ho
  exact ⟨rfl,rfl⟩
theorem Rel.growIn (h:Rel P base w0 dp st θ M w) {ty:Ty} {xs ys:List ty.den} {ds:List Value} {k:Nat} {reg:Reg} (hk:M.τ k=some (some reg)) (hsz:reg.sz=ty.cells) {z0:Nat} (hn:reg.n=z0+xs.length) (ho:z0≤reg.cap) {v:Value} (hv:v=.slice (some ⟨reg.g,z0*ty.cells,none⟩) xs.length (reg.cap - z0))
  (hd:RelD M.F (.list ty) xs [v]) (hys:RowsRel M.F ty ys ds) (hroom:xs.length+ys.length≤reg.cap - z0) {cur:Array Value} {e:TypeId} (hg:w.heap[reg.g]? = some (.cells cur e (0,0))) :
  ∃ F',Rel P base w0 dp (st.minted (some k)) θ (M.mint F' (some k) (some ⟨reg.g,reg.cap,z0+(xs++ys).length,ty.cells⟩)) (w.setRow reg.g (cur.toList.take ((z0+xs.length)*ty.cells)++ds++cur.toList.drop ((z0+xs.length)*ty.cells+ds.length)).toArray) ∧
   RelV (M.mint F' (some k) (some ⟨reg.g,reg.cap,z0+(xs++ys).length,ty.cells⟩)) (.own st.nt ty (xs++ys)) (.slice (some ⟨reg.g,z0*ty.cells,none⟩) (xs.length+ys.length) (reg.cap - z0)):=by
 obtain ⟨h1,h2,h3⟩:=h.tok k _ hk
 obtain ⟨k1,k2,k3,cur',e',k4,k5,k6⟩:=h3 reg rfl
 rw [hg] at k4
 cases k4
 subst hv
 obtain ⟨_,_,cs,hrow,hcs⟩:=hd.row
 have hp:(z0+xs.length)*ty.cells=z0*ty.cells+xs.length*ty.cells:=Nat.add_mul ..
 have hdl:=hys.len
 have hcl:=hrow.len
 have hfit:(z0+xs.length)*ty.cells+ds.length≤cur.size:=by
  rw [k5,hsz,hdl,← Nat.add_mul];exact Nat.mul_le_mul_right _ (by omega)
 have hall:=hrow.append hys
 refine ⟨fun ad=>if ad.block=reg.g∧ad.spot=none∧(z0+xs.length)*ty.cells≤ad.off∧ad.off<(z0+xs.length)*ty.cells+ds.length then ds[ad.off - (z0+xs.length)*ty.cells]? else M.F ad,?_⟩
 generalize hF':(fun ad:Addr=>if ad.block=reg.g∧ad.spot=none∧(z0+xs.length)*ty.cells≤ad.off∧ad.off<(z0+xs.length)*ty.cells+ds.length then ds[ad.off - (z0+xs.length)*ty.cells]? else M.F ad)=F'
 have hdef:∀ ad:Addr,F' ad=if ad.block=reg.g∧ad.spot=none∧(z0+xs.length)*ty.cells≤ad.off∧ad.off<(z0+xs.length)*ty.cells+ds.length then ds[ad.off - (z0+xs.length)*ty.cells]? else M.F ad:=by
  intro ad;rw [← hF']
 clear hF'
 have hFle:M.F.le F':=by
  intro ad u hu
  rw [hdef,if_neg]
  ·exact hu
  ·rintro ⟨e1,e2,e3,e4⟩
   have:=k6 ad e1 (by rw [hn,hsz];exact e3)
   rw [this] at hu;cases hu
 have hFn:∀ ad:Addr,ad.block≠reg.g→F' ad=M.F ad:=by
  intro ad hne;rw [hdef,if_neg (fun e=>hne e.1)]
 have hblk:=Ub (w:=w) (cs:=(cur.toList.take ((z0+xs.length)*ty.cells)++ds++cur.toList.drop ((z0+xs.length)*ty.cells+ds.length)).toArray) hg
 have hnew:(w.setRow reg.g (cur.toList.take ((z0+xs.length)*ty.cells)++ds++cur.toList.drop ((z0+xs.length)*ty.cells+ds.length)).toArray).heap[reg.g]? = some (.cells (cur.toList.take ((z0+xs.length)*ty.cells)++ds++cur.toList.drop ((z0+xs.length)*ty.cells+ds.length)).toArray e (0,0)):=by
  rw [hblk,if_pos rfl]
 have hsize:(cur.toList.take ((z0+xs.length)*ty.cells)++ds++cur.toList.drop ((z0+xs.length)*ty.cells+ds.length)).toArray.size=reg.cap*ty.cells:=by
  have hq:cur.size=reg.cap*ty.cells:=by rw [k5,hsz]
  rw [← hq];simp;omega
 refine ⟨h.mint hFle (some k) _ (fun k' hk'=>by cases hk';exact h2) ?_ ?_ ?_ ?_ ?_ (by simp) (BelowB.setRow h.below k1 _) ?_ ?_ (fun c hc=>⟨by rw [hblk,if_neg (fun e=>h.dpi.reg hc hk e.symm)],fun a ha=>by rw [hFn a (by rw [ha];exact fun e=>h.dpi.reg hc hk e.symm)];exact h.dpi.F hc ha,fun r hr=>by cases hr;show reg.g≠c;exact h.dpi.reg hc hk⟩),?_⟩
 ·intro ad u hu
  rw [hdef] at hu
  by_cases he:ad.block=reg.g∧ad.spot=none∧(z0+xs.length)*ty.cells≤ad.off∧ad.off<(z0+xs.length)*ty.cells+ds.length
  ·rw [if_pos he] at hu
   refine .of he.2.1 ?_
   obtain ⟨g,o,sp⟩:=ad
   obtain ⟨rfl,rfl,he3,he4⟩:=he
   rw [V6 hnew]
   simp only at hu he3 he4
   simp only [List.getElem?_toArray]
   rw [List.getElem?_append_left (by simp;omega),List.getElem?_append_right (by simp;omega)]
   have:o - (cur.toList.take ((z0+xs.length)*ty.cells)).length=o - (z0+xs.length)*ty.cells:=by simp;omega
   rw [this];exact hu
  ·rw [if_neg he] at hu
   have hs0:=h.F ad u hu
   by_cases hb:ad.block=reg.g
   ·have h0:=hs0.in_cells (by rw [hb];exact hg)
    refine .of h0.1 ?_
    obtain ⟨g,o,sp⟩:=ad
    simp only at hb
    subst hb
    have hsp:sp=none:=h0.1
    subst hsp
    have holt:o<(z0+xs.length)*ty.cells:=by
     rcases Nat.lt_or_ge o ((z0+xs.length)*ty.cells) with hlt | hge
     ·exact hlt
     ·have:=k6 ⟨reg.g,o,none⟩ rfl (by rw [hn,hsz];exact hge)
      rw [this] at hu;cases hu
    rw [V6 hnew]
    have h0':=h0.2
    rw [V6 hg] at h0'
    simp only [List.getElem?_toArray]
    rw [List.append_assoc,List.getElem?_append_left (by simp;omega),List.getElem?_take,if_pos holt]
    simpa using h0'
   ·exact hs0.block (by rw [hblk,if_neg hb])
 ·intro d s b n ad hm hb
  have hne:=h.tbox k reg d s b n hk hm
  rw [hFn ad (by rw [hb];exact fun e=>hne e.symm)]
  exact h.Fbox d s b n ad hm hb
 ·intro d s b n hm
  have hne:=h.tbox k reg d s b n hk hm
  rw [hblk,if_neg (fun e=>hne e.symm)]
 ·intro k' r hk' hne
  have hgg:r.g≠reg.g:=fun e=>hne (by rw [h.tsep k' k r reg hk' hk e])
  obtain ⟨_,_,h3'⟩:=h.tok k' _ hk'
  obtain ⟨_,_,_,_,_,_,_,q6⟩:=h3' r rfl
  refine ⟨by rw [hblk,if_neg hgg],fun ad hb ho=>?_⟩
  rw [hFn ad (by rw [hb];exact hgg)]
  exact q6 ad hb ho
 ·intro r hr
  cases hr
  refine ⟨k1,by simp;omega,k3,⟨_,e,hnew,hsize,fun ad hb ho=>?_⟩,?_,?_⟩
  ·simp only at hb ho
   rw [List.length_append,← Nat.add_assoc,Nat.add_mul] at ho
   rw [hdef,if_neg (by omega)]
   exact k6 ad hb (by rw [hn,hsz];omega)
  ·intro k' r' hk' hne e
   exact hne (by rw [h.tsep k' k r' reg hk' hk e])
  ·intro d s b n hm
   exact h.tbox k reg d s b n hk hm
 ·intro ad u hu
  by_cases he:ad.block=reg.g
  ·exact .inr (by rw [he];exact k1)
  ·rw [hFn ad he] at hu;exact .inl hu
 ·intro k' r ad hk' hne hb hf
  have hgg:r.g≠reg.g:=fun e=>hne (by rw [h.tsep k' k r reg hk' hk e])
  rw [hFn ad (by rw [hb];exact hgg)];exact hf
 ·refine .own _ _ _ _ ?_ (by simp only [Me.mint];rw [h.N];omega) ?_
  ·have:=(hall.mono hFle).slice (F:=F') (g:=reg.g) (o:=z0*ty.cells) (cap:=reg.cap - z0) (fun j u hu=>?_) (by simp;omega) (by omega)
   ·show RelD F' ty.list (xs++ys) _
    simpa using this
   ·by_cases hj:j<cs.length
    ·rw [List.getElem?_append_left hj] at hu
     exact hFle _ _ (hcs j u hu)
    ·rw [List.getElem?_append_right (by omega)] at hu
     have hjl:j - cs.length<ds.length:=(List.getElem?_eq_some_iff.1 hu).1
     rw [hdef,if_pos ⟨rfl,rfl,by simp only;omega,by simp only;omega⟩]
     simp only
     rw [show z0*ty.cells+j - (z0+xs.length)*ty.cells=j - cs.length by omega];exact hu
  ·intro o ho
   simp only [Me.mint] at ho
   rw [if_pos h.N.symm] at ho
   cases ho
   exact ⟨z0,⟨reg.g,z0*ty.cells,none⟩,by simp,fun _=>rfl,rfl,ho,rfl⟩
end
end Go.Ab
