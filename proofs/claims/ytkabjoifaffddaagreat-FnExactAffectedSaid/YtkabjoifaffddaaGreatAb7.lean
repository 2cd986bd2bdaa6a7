import Derived.Test.YtkabjoifaffddaaGreatAb6
import Derived.Laws.CopyRow
import Derived.Laws.MakeOwn
import Derived.Laws.AppendOwn
namespace Go.Ab
variable {R:Type}
section
variable {P:Program} {base:Base} {w0:Orig} {dp nn:Nat} {st:St} {θ:Nat→Nat→Value} {M M':Me} {a:Act} {w w':World}
theorem QtN (h:Rel P base w0 dp st θ M w) {ad:Addr} {u:Value} (hu:M.F ad=some u):ad.block<w.heap.size:=(h.F ad u hu).lt
theorem Gn {b:Nat} {o:Obj} (h:w.heap[b]? = some o):b<w.heap.size:=(Array.getElem?_eq_some_iff.1 h).1
theorem Rel.ext (h:Rel P base w0 dp st θ M w) (hM:M.le dp M') (hsz:w.heap.size≤w'.heap.size) (hblk:∀ k,k<w.heap.size→w'.heap[k]? = w.heap[k]?)
  (hF:∀ a u,M'.F a=some u→M.F a=some u∨(Sees w' a u∧w.heap.size≤a.block)) (hμ:M'.μ=M.μ) (hτ:M'.τ=M.τ) (hN:M'.N=M.N) (hD:M'.D=M.D) (hbelow:BelowB base w0.w w') :
  Rel P base w0 dp st θ M' w' where
 F:=by
  intro ad u hu
  rcases hF ad u hu with h1 | h1
  ·exact (h.F ad u h1).block (hblk ad.block (QtN h h1))
  ·exact h1.1
 tm:=fun d t hd=>(h.tm d t hd).mono (hM.down hd) (h.le d t hd)
 le:=h.le
 bx:=by
  intro d s hd
  have hb:=h.bx d s hd
  split at hb
  ·rw [hμ];exact hb
  ·obtain ⟨b,T,arr,h1,h2,h3,h4,h5⟩:=hb
   exact ⟨b,T,arr,by rw [hμ];exact h1,h2,by rw [hblk b (Gn h3)];exact h3,h4.mono (hM.down hd) h5,h5⟩
  ·obtain ⟨b,T,arr,h1,h2,h3,h4,h5,h6⟩:=hb
   exact ⟨b,T,arr,by rw [hμ];exact h1,h2,by rw [hblk b (Gn h3)];exact h3,h4,h5,fun i x hx=>(h6 i x hx).mono hM.F⟩
  ·obtain ⟨b,ms,c,h1,h2,h3,h4⟩:=hb
   exact ⟨b,ms,c,by rw [hμ];exact h1,h2,by rw [hblk b (Gn h3)];exact h3,h4.mono hM.F⟩
 deep:=by rw [hμ];exact h.deep
 sep:=by rw [hμ];exact h.sep
 Fbox:=by
  intro d s b n ad hm hb
  rw [hμ] at hm
  cases hu:M'.F ad with
  | none=>rfl
  | some u =>
   rcases hF ad u hu with h1 | h1
   ·rw [h.Fbox d s b n ad hm hb] at h1;cases h1
   ·exfalso
    have hd:=h.deep_le hm
    have hx:=h.bx d s hd
    split at hx
    ·rw [hm] at hx;cases hx
    ·obtain ⟨b',T,arr,h2,_,h3,_⟩:=hx
     rw [hm] at h2;cases h2
     have:=Gn h3;omega
    ·obtain ⟨b',T,arr,h2,_,h3,_⟩:=hx
     rw [hm] at h2;cases h2
     have:=Gn h3;omega
    ·obtain ⟨b',ms,c,h2,_,h3,_⟩:=hx
     rw [hm] at h2;cases h2
     have:=Gn h3;omega
 tok:=by
  intro k o ho
  rw [hτ] at ho
  obtain ⟨h1,h2,h3⟩:=h.tok k o ho
  refine ⟨by rw [hN];exact h1,h2,fun reg hr=>?_⟩
  obtain ⟨k1,k2,k3,cur,e,k4,k5,k6⟩:=h3 reg hr
  refine ⟨k1,k2,k3,cur,e,by rw [hblk _ (Gn k4)];exact k4,k5,fun ad hb ho=>?_⟩
  cases hu:M'.F ad with
  | none=>rfl
  | some u =>
   rcases hF ad u hu with h1 | h1
   ·rw [k6 ad hb ho] at h1;cases h1
   ·have:=Gn k4;omega
 live:=by rw [hτ];exact h.live
 tsep:=by rw [hτ];exact h.tsep
 tbox:=by rw [hτ,hμ];exact h.tbox
 N:=by rw [hN];exact h.N
 lv:=h.lv
 hb:=Nat.le_trans h.hb hsz
 below:=hbelow
 F0:=h.F0.trans hM.F
 Fnew:=by
  intro ad u hu
  rcases hF ad u hu with h1 | h1
  ·exact h.Fnew ad u h1
  ·exact .inr ((.inl (Nat.le_trans h.hb h1.2)))
 gl:=h.gl
 rw:=by
  intro k b hk
  obtain ⟨h1,h2,h3⟩:=h.rw k b hk
  refine ⟨h1,by rw [hτ];exact h2,fun reg hr=>?_⟩
  rw [hτ] at hr
  obtain ⟨k1,k2,k3,cur,e,k4,k5⟩:=h3 reg hr
  have hlt:=Gn k4
  refine ⟨k1,k2,fun ad hb=>?_,cur,e,by rw [hblk _ hlt];exact k4,fun i x hx=>(k5 i x hx).mono hM.F⟩
  cases hu:M'.F ad with
  | none=>rfl
  | some u =>
   rcases hF ad u hu with q | q
   ·rw [k3 ad hb] at q;cases q
   ·omega
 dpi:=h.dpi.step hD hsz (fun c hc=>hblk c (h.dpi.lt hc)) (fun c a hc ha hn=>by
  cases hu:M'.F a with
  | none=>rfl
  | some u =>
   rcases hF a u hu with q | q
   ·rw [hn] at q;cases q
   ·have:=h.dpi.lt hc;omega) (fun c d s n _ hm=>by rw [hμ] at hm;exact hm) (fun c k reg _ hr _=>by rw [hτ] at hr;exact ⟨k,hr⟩)
theorem Rel.drew (h:Rel P base w0 dp st θ M w):Rel P base w0 dp st θ M w.drew:=h.ext (.refl _ _) (Nat.le_refl _) (fun _ _=>rfl) (fun _ _ h=>.inl h) rfl rfl rfl rfl h.below.drew
theorem Rel.alloc (h:Rel P base w0 dp st θ M w) (o:Obj):Rel P base w0 dp st θ M (w.alloc o) :=
 h.ext (.refl _ _) (by simp) (fun k hk=>heap_alloc_old w o k hk) (fun _ _ h=>.inl h) rfl rfl rfl rfl (h.below.alloc h.hb o)
def Me.box (M:Me) (d s b n:Nat):Me:={ M with μ:=fun d' s'=>if d'=d∧s'=s then some (b,n) else M.μ d' s' }
theorem Me.box_le {n d s b k:Nat} (h:M.μ d s=none):M.le n (M.box d s b k) where
 F:=.refl _
 μ:=by
  intro d' s' x _ hx
  by_cases e:d'=d∧s'=s
  ·obtain ⟨rfl,rfl⟩:=e;rw [h] at hx;cases hx
  ·simp only [Me.box,if_neg e];exact hx
 N:=Nat.le_refl _
 τ:=fun _ _ _ h=>h
 D:=.refl _
theorem Qao (f:Nat→Nat→Box) (d t:Nat) (v:Box):QrW f d t v d t=v:=by
 have h1:Nat.beq t t=true:=Nat.beq_refl t
 have h2:Nat.beq d d=true:=Nat.beq_refl d
 unfold QrW;rw [h1,h2];rfl
theorem Wl (f:Nat→Nat→Box) (d t:Nat) (v:Box) (d' t':Nat) (h:¬ (d'=d∧t'=t)):QrW f d t v d' t'=f d' t':=by
 by_cases h1:t'=t
 ·have h2:d'≠d:=fun e=>h ⟨e,h1⟩
  simp [QrW,HQ h2]
 ·simp [QrW,HQ h1]
theorem Rel.noBox (h:Rel P base w0 dp st θ M w) {d s:Nat} (hd:d≤dp) (hb:st.bx d s=.none):M.μ d s=none:=by
 have:=h.bx d s hd
 rw [hb] at this
 exact this
theorem Rel.box_lt (h:Rel P base w0 dp st θ M w) {d s b n:Nat} (hm:M.μ d s=some (b,n)):b<w.heap.size:=by
 have hx:=h.bx d s (h.deep_le hm)
 split at hx
 ·rw [hm] at hx;cases hx
 ·obtain ⟨b',T,arr,h2,_,h3,_⟩:=hx
  rw [hm] at h2;cases h2
  exact Gn h3
 ·obtain ⟨b',T,arr,h2,_,h3,_⟩:=hx
  rw [hm] at h2;cases h2
  exact Gn h3
 ·obtain ⟨b',ms,c,h2,_,h3,_⟩:=hx
  rw [hm] at h2;cases h2
  exact Gn h3
def QBk (M:Me) (dp:Nat) (bx:Box) (n:Nat) (o:Obj):Prop :=
 match bx with
 | .none=>False
 | .cells cs=>n=0∧∃ arr T,o=.cells arr T (0,0)∧RelL M cs arr.toList∧V.le.leL dp cs=true
 | .rows ty xs=>n=xs.length∧∃ arr T,o=.cells arr T (0,0)∧arr.size=xs.length*ty.cells∧xs.length≤maxLen∧∀ (i:Nat) x,xs[i]? = some x→RelD M.F ty x ((arr.toList.drop (i*ty.cells)).take ty.cells)
 | .map k v es=>n=0∧∃ ms c,o=.map ms c∧MapRel M.F k v es ms c
theorem Rel.newBoxG (h:Rel P base w0 dp st θ M w) {s:Nat} (hs:st.bx dp s=.none) {o:Obj} {bx:Box} {n:Nat} (hbx:QBk M dp bx n o) :
  Rel P base w0 dp (st.setB dp s bx) θ (M.box dp s w.heap.size n) (w.alloc o):=by
 have hμ:=h.noBox (Nat.le_refl _) hs
 have hle:M.le dp (M.box dp s w.heap.size n):=Me.box_le hμ
 have h':=h.alloc o
 refine ⟨h'.F,fun d t hd=>(h'.tm d t hd).mono (hle.down hd) (h'.le d t hd),h'.le,?_,?_,?_,?_,h'.tok,h'.live,h'.tsep,?_,h'.N,h'.lv,h'.hb,h'.below,h'.F0,h'.Fnew,h'.gl,h'.rw,?_⟩
 rotate_right
 ·refine h'.dpi.step (M':=M.box dp s w.heap.size n) rfl (Nat.le_refl _) (fun _ _=>rfl) (fun _ _ _ _ h=>h) (fun c d s' k hc hm=>?_) (fun c k reg _ hr _=>⟨k,hr⟩)
  simp only [Me.box] at hm
  split at hm
  ·cases hm
   have:=h.dpi.lt hc
   omega
  ·exact hm
 ·intro d s' hd
  by_cases e:d=dp∧s'=s
  ·obtain ⟨rfl,rfl⟩:=e
   simp only [St.setB]
   rw [Qao]
   have hnew:=heap_alloc_new w o
   cases bx with
   | none=>exact hbx.elim
   | cells cs =>
    obtain ⟨rfl,arr,T,rfl,h1,h2⟩:=hbx
    exact ⟨w.heap.size,T,arr,by simp [Me.box],(.inl h.hb),hnew,h1.mono hle h2,h2⟩
   | rows ty xs =>
    obtain ⟨rfl,arr,T,rfl,h1,h2,h3⟩:=hbx
    exact ⟨w.heap.size,T,arr,by simp [Me.box],(.inl h.hb),hnew,h1,h2,h3⟩
   | map k v es =>
    obtain ⟨rfl,ms,c,rfl,h1⟩:=hbx
    exact ⟨w.heap.size,ms,c,by simp [Me.box],(.inl h.hb),hnew,h1⟩
  ·simp only [St.setB]
   rw [Wl _ _ _ _ _ _ e]
   have hb:=h'.bx d s' hd
   split at hb
   ·simp only [Me.box,if_neg e];exact hb
   ·obtain ⟨b,T',arr',h1,h2,h3,h4,h5⟩:=hb
    exact ⟨b,T',arr',by simp only [Me.box,if_neg e];exact h1,h2,h3,h4.mono (hle.down hd) h5,h5⟩
   ·obtain ⟨b,T',arr',h1,h2,h3,h4⟩:=hb
    exact ⟨b,T',arr',by simp only [Me.box,if_neg e];exact h1,h2,h3,h4⟩
   ·obtain ⟨b,T',arr',h1,h2,h3,h4⟩:=hb
    exact ⟨b,T',arr',by simp only [Me.box,if_neg e];exact h1,h2,h3,h4⟩
 ·intro d s' hd
  have:¬ (d=dp∧s'=s):=fun e=>by omega
  simp only [Me.box,if_neg this]
  exact h.deep d s' hd
 ·intro d s1 d' s2 b n1 n2 h1 h2
  simp only [Me.box] at h1 h2
  split at h1<;>split at h2
  ·rename_i e1 e2;exact ⟨e1.1.trans e2.1.symm,e1.2.trans e2.2.symm⟩
  ·cases h1;have:=h.box_lt h2;omega
  ·cases h2;have:=h.box_lt h1;omega
  ·exact h.sep d s1 d' s2 b n1 n2 h1 h2
 ·intro d s' b n1 ad hm hb
  simp only [Me.box] at hm
  split at hm
  ·cases hm
   cases hu:M.F ad with
   | none=>exact hu
   | some u=>have:=QtN h hu;omega
  ·exact h.Fbox d s' b n1 ad hm hb
 ·intro k reg d s' b n1 hk hm
  simp only [Me.box] at hm hk
  split at hm
  ·cases hm
   obtain ⟨_,_,h3⟩:=h.tok k _ hk
   obtain ⟨_,_,_,cur,e,k4,_⟩:=h3 reg rfl
   have:=Gn k4
   omega
  ·exact h.tbox k reg d s' b n1 hk hm
theorem Rel.newBox (h:Rel P base w0 dp st θ M w) {s:Nat} (hs:st.bx dp s=.none) {arr:Array Value} {T:TypeId} {bx:Box} {n:Nat}
  (hbx:match bx with
   | .none=>False
   | .cells cs=>n=0∧RelL M cs arr.toList∧V.le.leL dp cs=true
   | .rows ty xs=>n=xs.length∧arr.size=xs.length*ty.cells∧xs.length≤maxLen∧∀ (i:Nat) x,xs[i]? = some x→RelD M.F ty x ((arr.toList.drop (i*ty.cells)).take ty.cells)
   | .map _ _ _=>False) :
  Rel P base w0 dp (st.setB dp s bx) θ (M.box dp s w.heap.size n) (w.alloc (.cells arr T)):=by
 refine h.newBoxG hs ?_
 cases bx with
 | none=>exact hbx
 | cells cs=>exact ⟨hbx.1,arr,T,rfl,hbx.2⟩
 | rows ty xs=>exact ⟨hbx.1,arr,T,rfl,hbx.2⟩
 | map k v es=>exact hbx.elim
theorem Ub {g:Nat} {cs cur:Array Value} {T:TypeId} (hg:w.heap[g]? = some (.cells cur T (0,0))) (k:Nat):(w.setRow g cs).heap[k]? = if k=g then some (.cells cs T (0,0)) else w.heap[k]?:=by
 split
 ·rename_i e;subst e;exact setRow_heap w k cur cs T (0,0) hg
 ·rename_i e;exact setRow_other w g k cs e
theorem BelowN.setRow {B:Nat} {a w:World} (h:BelowN B a w) {g:Nat} (hg:B≤g) (cs:Array Value):BelowN B a (w.setRow g cs) :=
 h.trans ⟨rfl,rfl,rfl,by simp,fun k hk=>setRow_other w g k cs (by omega),Nat.le_refl _⟩
theorem BelowB.setRow {base:Base} {a w:World} (h:BelowB base a w) {g:Nat} (hg:Own base g) (cs:Array Value):BelowB base a (w.setRow g cs) :=
 h.trans ⟨rfl,rfl,rfl,by simp,fun k hk=>setRow_other w g k cs (fun e=>hk (by rw [e];exact hg)),Nat.le_refl _⟩
theorem Rel.setBoxG (h:Rel P base w0 dp st θ M w) {d s b n:Nat} (hm:M.μ d s=some (b,n)) {o:Obj} (hbb:Own base b) {bx:Box} (hbx:QBk M d bx n o) (hblk:∀ k,w'.heap[k]? = if k=b then some o else w.heap[k]?) (hsz:w'.heap.size=w.heap.size) (hbelow:BelowB base w0.w w') :
  Rel P base w0 dp (st.setB d s bx) θ M w':=by
 refine ⟨?_,h.tm,h.le,?_,h.deep,h.sep,h.Fbox,?_,h.live,h.tsep,h.tbox,h.N,h.lv,by rw [hsz];exact h.hb,hbelow,h.F0,h.Fnew,h.gl,?_,?_⟩
 rotate_right
 ·exact h.dpi.step rfl (by rw [hsz];exact Nat.le_refl _) (fun c hc=>by rw [hblk,if_neg (fun e=>h.dpi.box hc hm e.symm)]) (fun _ _ _ _ h=>h) (fun _ _ _ _ _ h=>h) (fun c k reg _ hr _=>⟨k,hr⟩)
 ·intro ad u hu
  have h1:=h.F ad u hu
  have hne:ad.block≠b:=fun e=>by rw [h.Fbox d s b n ad hm e] at hu;cases hu
  exact h1.block (by rw [hblk,if_neg hne])
 ·intro d' s' hd'
  by_cases e:d'=d∧s'=s
  ·obtain ⟨rfl,rfl⟩:=e
   simp only [St.setB]
   rw [Qao]
   have hnew:w'.heap[b]? = some o:=by rw [hblk,if_pos rfl]
   cases bx with
   | none=>exact hbx.elim
   | cells cs =>
    obtain ⟨rfl,arr,T,rfl,h1,h2⟩:=hbx
    exact ⟨b,T,arr,hm,hbb,hnew,h1,h2⟩
   | rows ty xs =>
    obtain ⟨rfl,arr,T,rfl,h1,h2,h3⟩:=hbx
    exact ⟨b,T,arr,hm,hbb,hnew,h1,h2,h3⟩
   | map k v es =>
    obtain ⟨rfl,ms,c,rfl,h1⟩:=hbx
    exact ⟨b,ms,c,hm,hbb,hnew,h1⟩
  ·simp only [St.setB]
   rw [Wl _ _ _ _ _ _ e]
   have hb:=h.bx d' s' hd'
   split at hb
   ·exact hb
   ·obtain ⟨b',T',arr',h1,h2,h3,h4⟩:=hb
    have hne:b'≠b:=fun eb=>by subst eb;exact e (h.sep d' s' d s _ _ _ h1 hm)
    exact ⟨b',T',arr',h1,h2,by rw [hblk,if_neg hne];exact h3,h4⟩
   ·obtain ⟨b',T',arr',h1,h2,h3,h4⟩:=hb
    have hne:b'≠b:=fun eb=>by subst eb;exact e (h.sep d' s' d s _ _ _ h1 hm)
    exact ⟨b',T',arr',h1,h2,by rw [hblk,if_neg hne];exact h3,h4⟩
   ·obtain ⟨b',T',arr',h1,h2,h3,h4⟩:=hb
    have hne:b'≠b:=fun eb=>by subst eb;exact e (h.sep d' s' d s _ _ _ h1 hm)
    exact ⟨b',T',arr',h1,h2,by rw [hblk,if_neg hne];exact h3,h4⟩
 ·intro k o ho
  obtain ⟨h1,h2,h3⟩:=h.tok k o ho
  refine ⟨h1,h2,fun reg hr=>?_⟩
  obtain ⟨k1,k2,k3,cur',e,k4,k5⟩:=h3 reg hr
  subst hr
  have hne:=h.tbox k reg d s b n ho hm
  exact ⟨k1,k2,k3,cur',e,by rw [hblk,if_neg hne];exact k4,k5⟩
 ·intro k rb hk
  obtain ⟨h1,h2,h3⟩:=h.rw k rb hk
  refine ⟨h1,h2,fun reg hr=>?_⟩
  obtain ⟨k1,k2,k3,cur',e,k4,k5⟩:=h3 reg hr
  have hne:=h.tbox k reg d s b n hr hm
  exact ⟨k1,k2,k3,cur',e,by rw [hblk,if_neg hne];exact k4,k5⟩
theorem Rel.setBox (h:Rel P base w0 dp st θ M w) {d s b n:Nat} (hm:M.μ d s=some (b,n)) {cur arr:Array Value} {T:TypeId} (hg:w.heap[b]? = some (.cells cur T (0,0))) (hbb:Own base b) {bx:Box}
  (hbx:match bx with
   | .none=>False
   | .cells cs=>n=0∧RelL M cs arr.toList∧V.le.leL d cs=true
   | .rows ty xs=>n=xs.length∧arr.size=xs.length*ty.cells∧xs.length≤maxLen∧∀ (i:Nat) x,xs[i]? = some x→RelD M.F ty x ((arr.toList.drop (i*ty.cells)).take ty.cells)
   | .map _ _ _=>False) :
  Rel P base w0 dp (st.setB d s bx) θ M (w.setRow b arr):=by
 refine h.setBoxG hm hbb (o:=.cells arr T (0,0)) ?_ (Ub (cs:=arr) hg) (by simp) (BelowB.setRow h.below hbb arr)
 cases bx with
 | none=>exact hbx
 | cells cs=>exact ⟨hbx.1,arr,T,rfl,hbx.2⟩
 | rows ty xs=>exact ⟨hbx.1,arr,T,rfl,hbx.2⟩
 | map k v es=>exact hbx.elim
theorem Ya (f:Nat→Option RBox) (t:Nat) (v:Option RBox):Qq4 f t v t=v:=by
 have h1:Nat.beq t t=true:=Nat.beq_refl t
 unfold Qq4;rw [h1];rfl
theorem Zi (f:Nat→Option RBox) (t:Nat) (v:Option RBox) (t':Nat) (h:t'≠t):Qq4 f t v t'=f t':=by simp [Qq4,HQ h]
theorem Rel.setR (h:Rel P base w0 dp st θ M w) {k:Nat} {b:RBox}
  (hb:st.lv k=true∧(M.τ k=some none→b.xs=[])∧∀ reg,M.τ k=some (some reg)→reg.n=b.xs.length∧reg.sz=b.ty.cells∧(∀ a,a.block=reg.g→M.F a=none) ∧
   ∃ cur e,w.heap[reg.g]? = some (.cells cur e (0,0))∧∀ (i:Nat) x,b.xs[i]? = some x→RelD M.F b.ty x ((cur.toList.drop (i*b.ty.cells)).take b.ty.cells)) :
  Rel P base w0 dp (st.setR k (some b)) θ M w:=by
 refine ⟨h.F,h.tm,h.le,h.bx,h.deep,h.sep,h.Fbox,h.tok,h.live,h.tsep,h.tbox,h.N,h.lv,h.hb,h.below,h.F0,h.Fnew,h.gl,?_,h.dpi⟩
 intro k' b' hk
 simp only [St.setR] at hk ⊢
 by_cases e:k'=k
 ·subst e
  rw [Ya] at hk
  cases hk
  exact hb
 ·rw [Zi _ _ _ _ e] at hk
  exact h.rw k' b' hk
theorem Rel.setRaw (h:Rel P base w0 dp st θ M w) {k:Nat} {b b':RBox} (hk:st.rw k=some b) {reg:Reg} (hr:M.τ k=some (some reg)) {cur arr:Array Value} {T:TypeId} (hg:w.heap[reg.g]? = some (.cells cur T (0,0)))
  (hs:arr.size=cur.size) (hn:b'.xs.length=b.xs.length) (ht:b'.ty=b.ty) (hx:∀ (i:Nat) x,b'.xs[i]? = some x→RelD M.F b'.ty x ((arr.toList.drop (i*b'.ty.cells)).take b'.ty.cells)) :
  Rel P base w0 dp (st.setR k (some b')) θ M (w.setRow reg.g arr):=by
 have hblk:=Ub (cs:=arr) hg
 obtain ⟨h1,h2,h3⟩:=h.rw k b hk
 obtain ⟨k1,k2,k3,cur0,e0,k4,k5⟩:=h3 reg hr
 obtain ⟨_,_,h6⟩:=h.tok k _ hr
 obtain ⟨q1,q2,q3,cur1,e1,q4,q5,q6⟩:=h6 reg rfl
 rw [hg] at k4 q4
 cases k4;cases q4
 have hnew:(w.setRow reg.g arr).heap[reg.g]? = some (.cells arr T (0,0)):=by rw [hblk,if_pos rfl]
 refine ⟨?_,h.tm,h.le,?_,h.deep,h.sep,h.Fbox,?_,h.live,h.tsep,h.tbox,h.N,h.lv,by simpa using h.hb,BelowB.setRow h.below q1 arr,h.F0,h.Fnew,h.gl,?_,?_⟩
 rotate_right
 ·exact h.dpi.step rfl (by simp) (fun c hc=>by rw [hblk,if_neg (fun e=>h.dpi.reg hc hr e.symm)]) (fun _ _ _ _ h=>h) (fun _ _ _ _ _ h=>h) (fun c k reg _ hr _=>⟨k,hr⟩)
 ·intro ad u hu
  have h1:=h.F ad u hu
  have hne:ad.block≠reg.g:=fun e=>by rw [k3 ad e] at hu;cases hu
  exact h1.block (by rw [hblk,if_neg hne])
 ·intro d' s' hd'
  have hb:=h.bx d' s' hd'
  simp only [St.setR]
  split at hb
  ·exact hb
  ·obtain ⟨b',T',arr',h1,h2,h3,h4⟩:=hb
   have hne:b'≠reg.g:=fun eb=>h.tbox k reg d' s' _ _ hr h1 eb.symm
   exact ⟨b',T',arr',h1,h2,by rw [hblk,if_neg hne];exact h3,h4⟩
  ·obtain ⟨b',T',arr',h1,h2,h3,h4⟩:=hb
   have hne:b'≠reg.g:=fun eb=>h.tbox k reg d' s' _ _ hr h1 eb.symm
   exact ⟨b',T',arr',h1,h2,by rw [hblk,if_neg hne];exact h3,h4⟩
  ·obtain ⟨b',T',arr',h1,h2,h3,h4⟩:=hb
   have hne:b'≠reg.g:=fun eb=>h.tbox k reg d' s' _ _ hr h1 eb.symm
   exact ⟨b',T',arr',h1,h2,by rw [hblk,if_neg hne];exact h3,h4⟩
 ·intro k' o ho
  obtain ⟨h1,h2,h3⟩:=h.tok k' o ho
  refine ⟨h1,h2,fun reg' hr'=>?_⟩
  subst hr'
  obtain ⟨p1,p2,p3,cur',e,p4,p5,p6⟩:=h3 reg' rfl
  by_cases eg:reg'.g=reg.g
  ·have ek:=h.tsep k' k reg' reg ho hr eg
   subst ek
   rw [hr] at ho
   cases ho
   exact ⟨p1,p2,p3,arr,T,hnew,by rw [hs];exact q5,p6⟩
  ·exact ⟨p1,p2,p3,cur',e,by rw [hblk,if_neg eg];exact p4,p5,p6⟩
 ·intro k' rb hk'
  simp only [St.setR] at hk' ⊢
  by_cases e:k'=k
  ·subst e
   rw [Ya] at hk'
   cases hk'
   refine ⟨h1,fun hh=>(by rw [hr] at hh;cases hh),fun reg' hr'=>?_⟩
   rw [hr] at hr'
   cases hr'
   exact ⟨by rw [hn];exact k1,by rw [ht];exact k2,k3,arr,T,hnew,hx⟩
  ·rw [Zi _ _ _ _ e] at hk'
   obtain ⟨h1,h2,h3⟩:=h.rw k' rb hk'
   refine ⟨h1,h2,fun reg' hr'=>?_⟩
   obtain ⟨k1,k2,k3,cur',e',k4,k5⟩:=h3 reg' hr'
   have hne:reg'.g≠reg.g:=fun eg=>e (h.tsep k' k reg' reg hr' hr eg)
   exact ⟨k1,k2,k3,cur',e',by rw [hblk,if_neg hne];exact k4,k5⟩
def Snap.cells (F:Snap) (g:Nat) (xs:List Value):Snap:=fun ad=>if ad.block=g∧ad.spot=none∧ad.off<xs.length then xs[ad.off]? else F ad
def Me.mint (M:Me) (F:Snap) (spent:Option Nat) (reg:Option Reg):Me:={ M with F:=F,N:=M.N+1,τ:=fun k=>if k=M.N then some reg else if some k=spent then none else M.τ k }
theorem GG (f:Nat→Bool) (t:Nat) (v:Bool):Qu5 f t v t=v:=by
 have h1:Nat.beq t t=true:=Nat.beq_refl t
 unfold Qu5;rw [h1];rfl
theorem HA (f:Nat→Bool) (t:Nat) (v:Bool) (t':Nat) (h:t'≠t):Qu5 f t v t'=f t':=by simp [Qu5,HQ h]
theorem Me.mint_le {n:Nat} {F:Snap} (hF:M.F.le F) (spent:Option Nat) (reg:Option Reg):M.le n (M.mint F spent reg) where
 F:=hF
 μ:=fun _ _ _ _ h=>h
 N:=Nat.le_succ _
 τ:=by
  intro k o hk ho
  simp only [Me.mint] at ho
  rw [if_neg (by omega)] at ho
  split at ho
  ·cases ho
  ·exact ho
 D:=.refl _
def St.minted (st:St) (spent:Option Nat):St :=
 match spent with
 | some k=>(st.spend k).mint
 | none=>st.mint
theorem Rel.mintB (h:Rel P base w0 dp st θ M w) {F:Snap} (hle:M.F.le F) (spent:Option Nat) (reg:Option Reg) (hspent:∀ k,spent=some k→st.lv k=true)
  (hF:∀ a u,F a=some u→Sees w' a u)
  (hbox:∀ d s b n ad,M.μ d s=some (b,n)→ad.block=b→F ad=none) {bx':Nat→Nat→Box} (hbxs:∀ d s,d≤dp→match bx' d s with
  | .none=>M.μ d s=none
  | .cells cs=>∃ b T arr,M.μ d s=some (b,0)∧Own base b∧w'.heap[b]? = some (.cells arr T (0,0))∧RelL (M.mint F spent reg) cs arr.toList∧V.le.leL d cs=true
  | .rows ty xs=>∃ b T arr,M.μ d s=some (b,xs.length)∧Own base b∧w'.heap[b]? = some (.cells arr T (0,0))∧arr.size=xs.length*ty.cells∧xs.length≤maxLen ∧
    ∀ i x,xs[i]? = some x→RelD F ty x ((arr.toList.drop (i*ty.cells)).take ty.cells)
  | .map k v es=>∃ b ms c,M.μ d s=some (b,0)∧Own base b∧w'.heap[b]? = some (.map ms c)∧MapRel F k v es ms c)
  (htok:∀ k r,M.τ k=some (some r)→some k≠spent→w'.heap[r.g]? = w.heap[r.g]?∧∀ ad,ad.block=r.g→r.n*r.sz≤ad.off→F ad=none)
  (hreg:∀ r,reg=some r→Own base r.g∧r.n≤r.cap∧r.cap≤maxLen∧(∃ cur e,w'.heap[r.g]? = some (.cells cur e (0,0))∧cur.size=r.cap*r.sz∧∀ ad,ad.block=r.g→r.n*r.sz≤ad.off→F ad=none) ∧
   (∀ k r',M.τ k=some (some r')→some k≠spent→r'.g≠r.g)∧∀ d s b n,M.μ d s=some (b,n)→r.g≠b)
  (hsz:w.heap.size≤w'.heap.size) (hbelow:BelowB base w0.w w') (hnew:∀ a u,F a=some u→M.F a=some u∨Own base a.block)
  (hkeep:∀ k r ad,M.τ k=some (some r)→some k≠spent→ad.block=r.g→M.F ad=none→F ad=none)
  (hmine:∀ c,M.mine c→w'.heap[c]? = w.heap[c]?∧(∀ a,a.block=c→F a=none)∧∀ r,reg=some r→r.g≠c):Rel P base w0 dp { st.minted spent with bx:=bx' } θ (M.mint F spent reg) w':=by
 have hM:M.le dp (M.mint F spent reg):=Me.mint_le hle spent reg
 have htm:(st.minted spent).tm=st.tm:=by cases spent<;>rfl
 have hnt:(st.minted spent).nt=st.nt+1:=by cases spent<;>rfl
 have hlv:∀ k,(st.minted spent).lv k=if k=st.nt then true else if some k=spent then false else st.lv k:=by
  intro k
  cases spent with
  | none =>
   simp only [St.minted,St.mint]
   by_cases e:k=st.nt
   ·subst e;rw [GG,if_pos rfl]
   ·rw [HA _ _ _ _ e,if_neg e,if_neg (by simp)]
  | some q =>
   simp only [St.minted,St.mint,St.spend]
   by_cases e:k=st.nt
   ·subst e;rw [GG,if_pos rfl]
   ·rw [HA _ _ _ _ e,if_neg e]
    by_cases e2:k=q
    ·subst e2;rw [GG,if_pos rfl]
    ·rw [HA _ _ _ _ e2,if_neg (by simpa using e2)]
 have hNN:M.N=st.nt:=h.N
 refine ⟨hF,?_,?_,?_,h.deep,h.sep,hbox,?_,?_,?_,?_,?_,?_,Nat.le_trans h.hb hsz,hbelow,h.F0.trans hle,fun ad u hu=>(hnew ad u hu).elim (fun h1=>h.Fnew ad u h1) .inr,by cases spent<;>exact h.gl,?_,?_⟩
 rotate_right
 ·have hdr:(st.minted spent).dr=st.dr:=by cases spent<;>rfl
  have hnd:(st.minted spent).nd=st.nd:=by cases spent<;>rfl
  rw [hdr,hnd]
  refine h.dpi.step (M':=M.mint F spent reg) rfl hsz (fun c hc=>(hmine c hc).1) (fun c a hc ha _=>(hmine c hc).2.1 a ha) (fun _ _ _ _ _ h=>h) (fun c k r hc hr e=>?_)
  simp only [Me.mint] at hr
  split at hr
  ·cases hr
   exact absurd e ((hmine c hc).2.2 r rfl)
  ·split at hr
   ·cases hr
   ·exact ⟨k,hr⟩
 ·show ∀ d t,d≤dp→RelV (M.mint F spent reg) ((st.minted spent).tm d t) (θ d t)
  rw [htm];exact fun d t hd=>(h.tm d t hd).mono (hM.down hd) (h.le d t hd)
 ·show ∀ d t,d≤dp→((st.minted spent).tm d t).le d=true
  rw [htm];exact h.le
 ·exact hbxs
 ·intro k o ho
  simp only [Me.mint] at ho ⊢
  rw [hlv]
  split at ho
  ·rename_i e
   cases ho
   rw [if_pos (by omega)]
   refine ⟨by omega,rfl,fun r hr=>?_⟩
   obtain ⟨h1,h2,h3,⟨cur,e',h4,h5,h6⟩,_⟩:=hreg r hr
   exact ⟨h1,h2,h3,cur,e',h4,h5,h6⟩
  ·rename_i e
   split at ho
   ·cases ho
   ·rename_i e2
    obtain ⟨h1,h2,h3⟩:=h.tok k o ho
    rw [if_neg (by omega),if_neg e2]
    refine ⟨by omega,h2,fun r hr=>?_⟩
    subst hr
    obtain ⟨k1,k2,k3,cur,e',k4,k5,_⟩:=h3 r rfl
    obtain ⟨k7,k8⟩:=htok k r ho e2
    exact ⟨k1,k2,k3,cur,e',by rw [k7];exact k4,k5,k8⟩
 ·intro k hk
  rw [hlv] at hk
  simp only [Me.mint]
  by_cases e:k=M.N
  ·rw [if_pos e];exact ⟨_,rfl⟩
  ·rw [if_neg e]
   rw [if_neg (by omega)] at hk
   split at hk
   ·cases hk
   ·rename_i e2
    rw [if_neg e2]
    exact h.live k hk
 ·intro k k' r r' h1 h2 e
  simp only [Me.mint] at h1 h2
  split at h1
  ·rename_i e1
   split at h2
   ·rename_i e2;omega
   ·split at h2
    ·cases h2
    ·rename_i e3
     cases h1
     obtain ⟨_,_,_,_,h5,_⟩:=hreg r rfl
     exact absurd e.symm (h5 k' r' h2 e3)
  ·split at h1
   ·cases h1
   ·rename_i e3
    split at h2
    ·cases h2
     obtain ⟨_,_,_,_,h5,_⟩:=hreg r' rfl
     exact absurd e (h5 k r h1 e3)
    ·split at h2
     ·cases h2
     ·exact h.tsep k k' r r' h1 h2 e
 ·intro k r d s b n h1 h2
  simp only [Me.mint] at h1
  split at h1
  ·cases h1
   obtain ⟨_,_,_,_,_,h6⟩:=hreg r rfl
   exact h6 d s b n h2
  ·split at h1
   ·cases h1
   ·exact h.tbox k r d s b n h1 h2
 ·rw [hnt];simp only [Me.mint];omega
 ·intro k hk
  rw [hnt] at hk
  rw [hlv,if_neg (by omega)]
  split
  ·rfl
  ·exact h.lv k (by omega)
 ·intro k b hk
  have hk0:some k≠spent∧st.rw k=some b:=by
   cases spent with
   | none=>exact ⟨by simp,hk⟩
   | some q =>
    simp only [St.minted,St.mint,St.spend] at hk
    by_cases e:k=q
    ·subst e;rw [Ya] at hk;cases hk
    ·rw [Zi _ _ _ _ e] at hk;exact ⟨by simpa using e,hk⟩
  obtain ⟨hne,hk1⟩:=hk0
  obtain ⟨h1,h2,h3⟩:=h.rw k b hk1
  obtain ⟨o,ho⟩:=h.live k h1
  have hkN:=(h.tok k o ho).1
  have hτ:(M.mint F spent reg).τ k=M.τ k:=by
   simp only [Me.mint]
   rw [if_neg (by omega),if_neg hne]
  refine ⟨?_,by rw [hτ];exact h2,fun r hr=>?_⟩
  ·rw [hlv,if_neg (by omega),if_neg hne];exact h1
  ·rw [hτ] at hr
   obtain ⟨k1,k2,k3,cur,e,k4,k5⟩:=h3 r hr
   refine ⟨k1,k2,fun ad hb=>hkeep k r ad hr hne hb (k3 ad hb),cur,e,by rw [(htok k r hr hne).1];exact k4,fun i x hx=>(k5 i x hx).mono hle⟩
theorem Rel.mint (h:Rel P base w0 dp st θ M w) {F:Snap} (hle:M.F.le F) (spent:Option Nat) (reg:Option Reg) (hspent:∀ k,spent=some k→st.lv k=true)
  (hF:∀ a u,F a=some u→Sees w' a u)
  (hbox:∀ d s b n ad,M.μ d s=some (b,n)→ad.block=b→F ad=none) (hblk:∀ d s b n,M.μ d s=some (b,n)→w'.heap[b]? = w.heap[b]?)
  (htok:∀ k r,M.τ k=some (some r)→some k≠spent→w'.heap[r.g]? = w.heap[r.g]?∧∀ ad,ad.block=r.g→r.n*r.sz≤ad.off→F ad=none)
  (hreg:∀ r,reg=some r→Own base r.g∧r.n≤r.cap∧r.cap≤maxLen∧(∃ cur e,w'.heap[r.g]? = some (.cells cur e (0,0))∧cur.size=r.cap*r.sz∧∀ ad,ad.block=r.g→r.n*r.sz≤ad.off→F ad=none) ∧
   (∀ k r',M.τ k=some (some r')→some k≠spent→r'.g≠r.g)∧∀ d s b n,M.μ d s=some (b,n)→r.g≠b)
  (hsz:w.heap.size≤w'.heap.size) (hbelow:BelowB base w0.w w') (hnew:∀ a u,F a=some u→M.F a=some u∨Own base a.block)
  (hkeep:∀ k r ad,M.τ k=some (some r)→some k≠spent→ad.block=r.g→M.F ad=none→F ad=none)
  (hmine:∀ c,M.mine c→w'.heap[c]? = w.heap[c]?∧(∀ a,a.block=c→F a=none)∧∀ r,reg=some r→r.g≠c):Rel P base w0 dp (st.minted spent) θ (M.mint F spent reg) w':=by
 have hM:M.le dp (M.mint F spent reg):=Me.mint_le hle spent reg
 have hbx:(st.minted spent).bx=st.bx:=by cases spent<;>rfl
 have e:st.minted spent={ st.minted spent with bx:=st.bx }:=by rw [← hbx]
 rw [e]
 refine h.mintB hle spent reg hspent hF hbox ?_ htok hreg hsz hbelow hnew hkeep hmine
 intro d s hd
 have hb:=h.bx d s hd
 revert hb
 cases st.bx d s with
 | none=>exact id
 | cells cs =>
  rintro ⟨b,T,arr,h1,h2,h3,h4,h5⟩
  exact ⟨b,T,arr,h1,h2,by rw [hblk _ _ _ _ h1];exact h3,h4.mono (hM.down hd) h5,h5⟩
 | rows ty xs =>
  rintro ⟨b,T,arr,h1,h2,h3,h4,h5,h6⟩
  exact ⟨b,T,arr,h1,h2,by rw [hblk _ _ _ _ h1];exact h3,h4,h5,fun i x hx=>(h6 i x hx).mono hle⟩
 | map k v es =>
  rintro ⟨b,ms,c,h1,h2,h3,h4⟩
  exact ⟨b,ms,c,h1,h2,by rw [hblk _ _ _ _ h1];exact h3,h4.mono hle⟩
end
end Go.Ab
