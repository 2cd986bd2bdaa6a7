import Derived.Test.YtkabjoifaffddaaGreatAb3
import Derived.ChangeKeysEq
namespace Go.Ab
variable {R:Type}
def thA (θ:Nat→Nat→Value) (dp:Nat) (a:Act):Nat→Nat→Value:=fun d t=>if d=dp then a.tmps.getD t undef else θ d t
structure RelA (P:Program) (base:Base) (w0:Orig) (dp nn:Nat) (st:St) (θ:Nat→Nat→Value) (M:Me) (a:Act) (w:World):Prop where
 rel:Rel P base w0 dp st (thA θ dp a) M w
 size:a.tmps.size=nn
 defers:a.defers=[]
theorem Qqw (M:Me) (v:Value):RelV M (WP v) v:=by
 unfold WP
 split
 ·exact .mkBool _
 ·rename_i k n
  cases h:inK k n
  ·exact .any _
  ·exact .mkInt h
 ·rename_i s
  cases h:Nat.ble s.size 140737488355328
  ·exact .any _
  ·exact .mkStr s (Nat.le_of_ble_eq_true h)
 ·exact .nils
 ·exact .any _
theorem Qsd (v:Value) (n:Nat):(WP v).le n=true:=by
 unfold WP
 split
 ·rfl
 ·cases inK _ _<;>rfl
 ·cases Nat.ble _ _<;>rfl
 ·rfl
 ·rfl
section
variable {P:Program} {base:Base} {w0:Orig} {dp nn:Nat} {st:St} {θ:Nat→Nat→Value} {M:Me} {a:Act} {w:World}
theorem RelA.ev (h:RelA P base w0 dp nn st θ M a w) (x:Operand):RelV M (st.ev dp x) (a.eval x)∧(st.ev dp x).le dp=true:=by
 cases x with
 | tmp t =>
  have h1:=h.rel.tm dp t (Nat.le_refl _)
  have h2:=h.rel.le dp t (Nat.le_refl _)
  simp only [thA,if_true] at h1
  exact ⟨h1,h2⟩
 | const v=>exact ⟨Qqw M v,Qsd v dp⟩
 | global g=>exact ⟨.any _,rfl⟩
 | func f=>exact ⟨.fn f [] #[] rfl (fun _ _ _ hc=>by simp at hc),rfl⟩
theorem Qqx (P:Program) (M:Me) (t:TypeId):RelV M (QkW P t) (.map none)∧∀ n,(QkW P t).le n=true:=by
 unfold QkW
 split
 ·exact ⟨.d _ _ _ ⟨none,rfl,fun _=>rfl,fun b h=>by cases h⟩,fun _=>rfl⟩
 ·exact ⟨.any _,fun _=>rfl⟩
theorem RelA.evA (h:RelA P base w0 dp nn st θ M a w) (P':Program) (x:Operand) (t:TypeId):RelV M (bif Qjm x then QkW P' t else st.ev dp x) (a.eval x)∧(bif Qjm x then QkW P' t else st.ev dp x).le dp=true:=by
 cases hx:Qjm x with
 | false=>exact h.ev x
 | true =>
  unfold Qjm at hx
  split at hx
  ·exact ⟨(Qqx P' M t).1,(Qqx P' M t).2 dp⟩
  ·cases hx
theorem Qju (f:Nat→Nat→V) (d t:Nat) (v:V):upd f d t v d t=v:=by
 have h1:Nat.beq t t=true:=Nat.beq_refl t
 have h2:Nat.beq d d=true:=Nat.beq_refl d
 unfold upd;rw [h1,h2];rfl
theorem HQ {a b:Nat} (h:a≠b):Nat.beq a b=false:=by
 cases e:Nat.beq a b with
 | false=>rfl
 | true=>exact absurd (Nat.eq_of_beq_eq_true e) h
theorem QbN (f:Nat→Nat→V) (d t:Nat) (v:V) (d' t':Nat) (h:¬ (d'=d∧t'=t)):upd f d t v d' t'=f d' t':=by
 by_cases h1:t'=t
 ·have h2:d'≠d:=fun e=>h ⟨e,h1⟩
  simp [upd,HQ h2]
 ·simp [upd,HQ h1]
theorem Qse (arr:Array Value) (t t':Nat) (u:Value) (ht:t<arr.size):(arr.setIfInBounds t u).getD t' undef=if t'=t then u else arr.getD t' undef:=by
 simp only [Array.getD_eq_getD_getElem?,Array.getElem?_setIfInBounds]
 by_cases h:t=t'
 ·subst h;simp [ht]
 ·have h':¬ t'=t:=fun e=>h e.symm
  simp [h,h']
theorem RelA.set (h:RelA P base w0 dp nn st θ M a w) {v:V} {u:Value} {t:Nat} (ht:t<nn) (hv:RelV M v u) (hle:v.le dp=true):RelA P base w0 dp nn (st.set dp t v) θ M (a.put (some t) u) w:=by
 have hsz:t<a.tmps.size:=by rw [h.size];exact ht
 refine ⟨⟨h.rel.F,?_,?_,h.rel.bx,h.rel.deep,h.rel.sep,h.rel.Fbox,h.rel.tok,h.rel.live,h.rel.tsep,h.rel.tbox,h.rel.N,h.rel.lv,h.rel.hb,h.rel.below,h.rel.F0,h.rel.Fnew,h.rel.gl,h.rel.rw,h.rel.dpi⟩,?_,h.defers⟩
 ·intro d t' hd
  have h1:=h.rel.tm d t' hd
  simp only [St.set,thA,Act.put] at h1 ⊢
  by_cases hdd:d=dp
  ·subst hdd
   simp only [if_true] at h1 ⊢
   rw [Qse _ _ _ _ hsz]
   by_cases htt:t'=t
   ·subst htt;rw [Qju,if_pos rfl];exact hv
   ·rw [QbN _ _ _ _ _ _ (fun e=>htt e.2),if_neg htt];exact h1
  ·rw [if_neg hdd] at h1 ⊢
   rw [QbN _ _ _ _ _ _ (fun e=>hdd e.1)]
   exact h1
 ·intro d t' hd
  by_cases hdt:d=dp∧t'=t
  ·obtain ⟨rfl,rfl⟩:=hdt
   simp only [St.set];rw [Qju];exact hle
  ·simp only [St.set];rw [QbN _ _ _ _ _ _ hdt];exact h.rel.le d t' hd
 ·simp [Act.put,h.size]
theorem RelA.put (h:RelA P base w0 dp nn st θ M a w) {v:V} {u:Value} {dst:Option Nat} (ht:∀ t,dst=some t→t<nn) (hv:RelV M v u) (hle:v.le dp=true):RelA P base w0 dp nn (st.put dp dst v) θ M (a.put dst u) w:=by
 cases dst with
 | none=>exact h
 | some t=>exact h.set (ht t rfl) hv hle
def Eh (P:Program) (M:Me) (w:World) (dp:Nat) (K:V→Option R) (r:R) (s:Sem Value):Prop:=∃ v u,K v=some r∧(∀ w',BelowN w.heap.size w w'→s.run P w'=.ok u w')∧RelV M v u∧v.le dp=true
theorem GivesFlat.l {K:V→Option R} {r:R} {s:Sem Value} (h:GivesFlat P M w K r s) (dp:Nat):Eh P M w dp K r s :=
 let ⟨v,u,h1,h2,h3,h4⟩:=h;⟨v,u,h1,fun w _=>h2 w,h3,h4 dp⟩
theorem Qmu {w w':World} (h:BelowN w.heap.size w w') {ad:Addr} {u:Value} (hc:w.cell? ad=some u):w'.cell? ad=some u:=by
 have hb:ad.block<w.heap.size:=by
  unfold World.cell? at hc
  split at hc
  ·rename_i hh;exact (Array.getElem?_eq_some_iff.1 hh).1
  ·cases hc
 rw [h.cell hb]
 exact hc
theorem WT {t:TypeId} {cs:List V} {us:List Value} {off:Nat} {K:V→Option R} {r:R} (h:EX P t cs off K=some r) (hr:RelL M cs us) (hle:V.le.leL dp cs=true) (b o:Nat)
  (hc:∀ (j:Nat) (u:Value),us[j]? = some u→w.cell? ⟨b,o+j,none⟩=some u):Eh P M w dp K r (loadVar t ⟨b,o+off,none⟩):=by
 unfold EX at h
 split at h
 case h_2=>cases h
 rename_i d hd
 obtain ⟨i,hi⟩:=info_of_underlying hd
 split at h
 ·rename_i ha
  obtain ⟨h0,h⟩:=Qn h
  have hl:((cs.drop off).take (P.cellsOf t)).length=P.cellsOf t:=Nat.eq_of_beq_eq_true h0
  have hr':=(hr.drop off).take (P.cellsOf t)
  have hsz:i.size=((us.drop off).take (P.cellsOf t)).length:=by
   rw [← hr'.len,hl];simp [Program.cellsOf,hi]
  have hload:∀ w',BelowN w.heap.size w w'→(loadCells ⟨b,o+off,none⟩ ((us.drop off).take (P.cellsOf t)).length).run P w'=.ok ((us.drop off).take (P.cellsOf t)).toArray w':=by
   intro w' hw'
   refine run_loadCells_list w' _ _ fun j v hv=>?_
   rw [List.getElem?_take] at hv
   split at hv
   ·rw [List.getElem?_drop] at hv
    rw [Addr.add_lit,Nat.add_assoc]
    exact Qmu hw' (hc _ _ hv)
   ·cases hv
  refine ⟨_,.agg ((us.drop off).take (P.cellsOf t)).toArray,h,?_,.agg _ _ (by simpa using hr'.len) (fun i c u hc hu=>hr'.at_ i c u hc (by simpa using hu)) (fun u hu=>hr'.one u (by simpa using hu)),?_⟩
  ·intro w' hw'
   unfold loadVar
   rw [Sem.run_bind,QbM hd,ha,Result.andThen_ok]
   simp only [if_true,Sem.run_bind,Zy hi,Result.andThen_ok,hsz,hload w' hw',Sem.run_pure]
  ·refine Ug fun c hc=>?_
   obtain ⟨j,hj⟩:=List.getElem?_of_mem (List.mem_of_mem_drop (List.mem_of_mem_take hc))
   exact VT hle hj
 ·rename_i ha
  split at h
  ·rename_i c rest hdr
   have hc0:cs[off]? = some c:=by
    have:(cs.drop off)[0]? = some c:=by rw [hdr];rfl
    rwa [List.getElem?_drop,Nat.add_zero] at this
   have hlt:off<us.length:=by
    rw [← hr.len]
    exact (List.getElem?_eq_some_iff.1 hc0).1
   obtain ⟨u,hu⟩:∃ u,us[off]? = some u:=⟨_,List.getElem?_eq_getElem hlt⟩
   refine ⟨c,u,h,?_,hr.at_ off c u hc0 hu,VT hle hc0⟩
   intro w' hw'
   unfold loadVar
   rw [Sem.run_bind,QbM hd,ha,Result.andThen_ok]
   simp only [Bool.false_eq_true,if_false,run_load,Qmu hw' (hc off u hu)]
  ·cases h
theorem RelV.eptr_inv {cs:List V} {v:Value} (h:RelV M (.eptr cs) v):∃ b o us,v=.pointer (some ⟨b,o,none⟩)∧RelL M cs us∧∀ (j:Nat) (u:Value),us[j]? = some u→M.F ⟨b,o+j,none⟩=some u:=by
 cases h with
 | eptr cs b o us hl ha hF h1=>exact ⟨b,o,us,rfl,⟨hl,ha,h1⟩,hF⟩
theorem RelV.ptr_inv {d s off:Nat} {v:Value} (h:RelV M (.ptr d s off) v):∃ b n,v=.pointer (some ⟨b,off,none⟩)∧M.μ d s=some (b,n):=by
 cases h with
 | ptr d s off b n h=>exact ⟨b,n,rfl,h⟩
theorem RelV.rptr_inv {d s sz:Nat} {i:Int} {off:Nat} {v:Value} (h:RelV M (.rptr d s sz i off) v):∃ b n,v=.pointer (some ⟨b,i.toNat*sz+off,none⟩)∧M.μ d s=some (b,n):=by
 cases h with
 | rptr d s sz i off b n h=>exact ⟨b,n,rfl,h⟩
theorem RelV.mp_inv {d s:Nat} {v:Value} (h:RelV M (.mp d s) v):∃ b n,v=.map (some b)∧M.μ d s=some (b,n):=by
 cases h with
 | mp d s b n h=>exact ⟨b,n,rfl,h⟩
theorem RelV.raw_inv {k:Nat} {v:Value} (h:RelV M (.raw k) v):k<M.N∧∀ o,M.τ k=some o→Qr7 o v:=by
 cases h with
 | raw k v h1 h2=>exact ⟨h1,h2⟩
theorem RelV.qptr_inv {k sz:Nat} {i:Int} {off:Nat} {v:Value} (h:RelV M (.qptr k sz i off) v):k<M.N∧∀ reg,M.τ k=some (some reg)→v=.pointer (some ⟨reg.g,i.toNat*sz+off,none⟩):=by
 cases h with
 | qptr k sz i off v h1 h2=>exact ⟨h1,h2⟩
theorem RelV.dr_inv {k:Nat} {v:Value} (h:RelV M (.dr k) v):k<M.D.N∧∀ u bs,M.D.δ k=some (u,bs)→v=u:=by
 cases h with
 | dr k v h1 _ h2=>exact ⟨h1,h2⟩
theorem RelV.dr_one {k:Nat} {v:Value} (h:RelV M (.dr k) v):v.oneCell'=true:=by
 cases h with
 | dr k v _ h1 _=>exact h1
theorem RelV.dq_inv {k sz:Nat} {i:Int} {off:Nat} {v:Value} (h:RelV M (.dq k sz i off) v):k<M.D.N∧∀ b o n c bs,M.D.δ k=some (.slice (some ⟨b,o,none⟩) n c,bs)→v=.pointer (some ⟨b,o+i.toNat*sz+off,none⟩):=by
 cases h with
 | dq k sz i off v h1 _ h2=>exact ⟨h1,h2⟩
theorem RelV.dvw_inv {k sz:Nat} {lo:Int} {hi:Option Int} {v:Value} (h:RelV M (.dvw k sz lo hi) v):k<M.D.N∧v.oneCell'=true∧∀ ad n c bs,M.D.δ k=some (.slice ad n c,bs)→lo.toNat≤n∧(∀ h,hi=some h→lo.toNat≤h.toNat∧h.toNat≤n) ∧
  v=.slice (if c=lo.toNat then ad else ad.map (·.add (lo.toNat*sz))) (hi.elim n Int.toNat - lo.toNat) (c - lo.toNat):=by
 cases h with
 | dvw k sz lo hi v h1 h2 h3=>exact ⟨h1,h2,h3⟩
theorem RelV.dq_ptr {k sz:Nat} {i:Int} {off:Nat} {v:Value} (h:RelV M (.dq k sz i off) v):∃ b' o',v=.pointer (some ⟨b',o',none⟩):=by
 cases h with
 | dq k sz i off v _ h _=>exact h
theorem Rel.raw_at {P:Program} {base:Base} {w0:Orig} {dp:Nat} {st:St} {θ:Nat→Nat→Value} {M:Me} {w:World} (h:Rel P base w0 dp st θ M w) {k:Nat} {b:RBox} (hk:st.rw k=some b) (hne:0<b.xs.length) :
  ∃ reg cur e,M.τ k=some (some reg)∧reg.n=b.xs.length∧reg.sz=b.ty.cells∧Own base reg.g∧reg.n≤reg.cap∧reg.cap≤maxLen∧(∀ a,a.block=reg.g→M.F a=none)∧w.heap[reg.g]? = some (.cells cur e (0,0))∧cur.size=reg.cap*reg.sz ∧
   ∀ (i:Nat) x,b.xs[i]? = some x→RelD M.F b.ty x ((cur.toList.drop (i*b.ty.cells)).take b.ty.cells):=by
 obtain ⟨h1,h2,h3⟩:=h.rw k b hk
 obtain ⟨o,ho⟩:=h.live k h1
 cases o with
 | none=>rw [h2 ho] at hne;simp at hne
 | some reg =>
  obtain ⟨k1,k2,k3,cur,e,k4,k5⟩:=h3 reg ho
  obtain ⟨_,_,h5⟩:=h.tok k _ ho
  obtain ⟨q1,q2,q3,cur',e',q4,q5,_⟩:=h5 reg rfl
  rw [k4] at q4
  cases q4
  exact ⟨reg,cur,e,ho,k1,k2,q1,q2,q3,k3,k4,q5,k5⟩
theorem V6 {g j:Nat} {arr:Array Value} {T:TypeId} {fr:Nat × Nat} (h:w.heap[g]? = some (.cells arr T fr)):w.cell? ⟨g,j,none⟩=arr[j]?:=cell_of_row w g j arr T fr h
theorem Rel.cells (h:Rel P base w0 dp st θ M w) {d s:Nat} {cs:List V} (hd:d≤dp) (hb:st.bx d s=.cells cs) :
  ∃ b T arr,M.μ d s=some (b,0)∧Own base b∧w.heap[b]? = some (.cells arr T (0,0))∧RelL M cs arr.toList∧V.le.leL d cs=true:=by
 have:=h.bx d s hd
 rw [hb] at this
 exact this
theorem Rel.rows (h:Rel P base w0 dp st θ M w) {d s:Nat} {ty:Ty} {xs:List ty.den} (hd:d≤dp) (hb:st.bx d s=.rows ty xs) :
  ∃ b T arr,M.μ d s=some (b,xs.length)∧Own base b∧w.heap[b]? = some (.cells arr T (0,0))∧arr.size=xs.length*ty.cells∧xs.length≤maxLen ∧
    ∀ i x,xs[i]? = some x→RelD M.F ty x ((arr.toList.drop (i*ty.cells)).take ty.cells):=by
 have:=h.bx d s hd
 rw [hb] at this
 exact this
theorem Rel.maps (h:Rel P base w0 dp st θ M w) {d s:Nat} {k v:Ty} {es:List (k.den × v.den)} (hd:d≤dp) (hb:st.bx d s=.map k v es) :
  ∃ b ms c,M.μ d s=some (b,0)∧Own base b∧w.heap[b]? = some (.map ms c)∧MapRel M.F k v es ms c:=by
 have:=h.bx d s hd
 rw [hb] at this
 exact this
theorem QnD {n m:Nat} (h:n≤m):∀ {v:V},v.le n=true→v.le m=true:=by
 intro v
 apply V.rec (motive_1:=fun v=>v.le n=true→v.le m=true) (motive_2:=fun cs=>V.le.leL n cs=true→V.le.leL m cs=true) (t:=v)
 ·intro h;exact h
 ·intro h;exact h
 ·intro t x h;exact h
 ·intro cs ih hh;exact ih hh
 ·intro cs ih hh;exact ih hh
 ·intro d s off hh;simp only [V.le] at hh ⊢;exact Nat.ble_eq_true_of_le (Nat.le_trans (Nat.le_of_ble_eq_true hh) h)
 ·intro d s sz i off hh;simp only [V.le] at hh ⊢;exact Nat.ble_eq_true_of_le (Nat.le_trans (Nat.le_of_ble_eq_true hh) h)
 ·intro tok t xs h;exact h
 ·intro h;exact h
 ·intro d s hh;simp only [V.le] at hh ⊢;exact Nat.ble_eq_true_of_le (Nat.le_trans (Nat.le_of_ble_eq_true hh) h)
 ·intro f cs ih hh;exact ih hh
 ·intro cs ih hh;exact ih hh
 ·intro k h;exact h
 ·intro k sz i off h;exact h
 ·intro d s hh;simp only [V.le] at hh ⊢;exact Nat.ble_eq_true_of_le (Nat.le_trans (Nat.le_of_ble_eq_true hh) h)
 ·intro k h;exact h
 ·intro k sz i off h;exact h
 ·intro k sz lo hi h;exact h
 ·intro h;exact h
 ·intro c cs ih1 ih2 hh
  simp only [V.le.leL,Bool.and_eq_true] at hh ⊢
  exact ⟨ih1 hh.1,ih2 hh.2⟩
theorem Quk {n m:Nat} (h:n≤m) {cs:List V} (hc:V.le.leL n cs=true):V.le.leL m cs=true:=by
 refine Ug fun c hcm=>?_
 obtain ⟨j,hj⟩:=List.getElem?_of_mem hcm
 exact QnD h (VT hc hj)
theorem Rel.deep_le (h:Rel P base w0 dp st θ M w) {d s b n:Nat} (hm:M.μ d s=some (b,n)):d≤dp:=by
 rcases Nat.lt_or_ge dp d with h1 | h1
 ·rw [h.deep d s h1] at hm;cases hm
 ·exact h1
theorem Vr {i:Int} {n:Nat}:inB i n=true↔0≤i∧i<(n:Int):=by simp [inB]
theorem Qqy {α:Type} {xs:List α} {i:Int} {d:α} (h:inB i xs.length=true):xs[i.toNat]? = some (rd xs i d):=by
 rw [Vr] at h
 have hlt:i.toNat<xs.length:=by omega
 simp [rd,List.getD,List.getElem?_eq_getElem hlt]
theorem Qul {ty:Ty} (h:ty.one=true) {c:V} {x:ty.den} (hp:Gs ty c=some x):c=.d ty x:=by
 cases ty<;>first | (cases h;done) | skip
 all_goals
  cases c<;>first | (cases hp;done) | skip
  rename_i t' y
  simp only [Gs,cast?] at hp
  split at hp
  ·rename_i e _
   subst e
   simp only [Option.some.injEq] at hp
   rw [← hp]
  ·cases hp
theorem Qjv {ty:Ty} (h:ty.one=true) (x:ty.den):Gs ty (.d ty x)=some x:=by
 cases ty<;>first | (cases h;done) | (simp [Gs,cast?,Ty.eq?])
theorem Qpi {ty:Ty} (h:ty.one=true):∀ {cs:List V} {xs:List ty.den},Qjj ty cs=some xs→cs=xs.map (V.d ty)
 | [],xs,e=>by simp only [Qjj,Option.some.injEq] at e;subst e;rfl
 | c::cs,xs,e=>by
  simp only [Qjj] at e
  split at e
  ·rename_i y ys h1 h2
   simp only [Option.some.injEq] at e
   subst e
   rw [Qul h h1,Qpi h h2]
   rfl
  ·cases e
theorem Qqz {ty:Ty} (h:ty.one=true) {i:Int} {x:ty.den}:∀ (xs:List ty.den) (j:Nat),i<(j:Int)→Qjk ty i x j (xs.map (V.d ty))=xs.map (V.d ty)
 | [],_,_=>rfl
 | y::ys,j,hj=>by
  simp only [List.map_cons,Qjk,Qjv h]
  rw [decide_eq_false (by omega),Qqz h ys (j+1) (by omega)]
  rfl
theorem Qum {ty:Ty} (h:ty.one=true) {i:Int} {x:ty.den}:∀ (xs:List ty.den) (j n:Nat),i=((j+n:Nat):Int)→Qjk ty i x j (xs.map (V.d ty))=(xs.set n x).map (V.d ty)
 | [],_,_,_=>rfl
 | y::ys,j,0,hj=>by
  simp only [List.map_cons,Qjk,Qjv h,List.set_cons_zero]
  rw [decide_eq_true (by omega),Qqz h ys (j+1) (by omega)]
  rfl
 | y::ys,j,n+1,hj=>by
  simp only [List.map_cons,Qjk,Qjv h,List.set_cons_succ]
  rw [decide_eq_false (by omega),Qum h ys (j+1) n (by omega)]
  rfl
theorem Qwg {t:TypeId} {ty:Ty} {cs:List V} {xs:List ty.den} {i:Int} {K:V→Option R} {r:R} (h1:ty.one=true) (hc:Qjj ty cs=some xs) (hu:(P.underlying t).isSome=true) (ha:(!Qc6 P t)=true)
  (hi:inB i xs.length=true) (hk:K (.d ty (rd xs i ty.dflt))=some r):EX P t cs i.toNat K=some r:=by
 obtain ⟨d,hd⟩:=Option.isSome_iff_exists.1 hu
 have ha:Qc6 P t=false:=by simpa using ha
 rw [Vr] at hi
 have hlt:i.toNat<xs.length:=by omega
 have hdrop:cs.drop i.toNat=.d ty (rd xs i ty.dflt)::(cs.drop (i.toNat+1)):=by
  rw [Qpi h1 hc]
  rw [List.drop_eq_getElem_cons (by simpa using hlt)]
  simp [rd,List.getD,List.getElem?_eq_getElem hlt]
 unfold EX
 simp only [hd,ha,hdrop,hk]
theorem QcF {t:TypeId} {p:V} {vp:Value} {K:V→Option R} {r:R} (h:QfC P st t p K=some r) (hrel:Rel P base w0 dp st θ M w) (hp:RelV M p vp) (hle:p.le dp=true):Eh P M w dp K r (Instr.loadAt t vp):=by
 have pass:∀ ad,Eh P M w dp K r (loadVar t ad)→Eh P M w dp K r (Instr.loadAt t (.pointer (some ad))):=by
  rintro ad ⟨v,u,h1,h2,h3⟩
  refine ⟨v,u,h1,fun w' hw'=>?_,h3⟩
  simp only [Instr.loadAt,Instr.sureAddr,Sem.run_bind,Sem.run_pure,Result.andThen_ok,h2 w' hw']
 unfold QfC at h
 split at h
 ·obtain ⟨b,o,us,rfl,hl,hF⟩:=hp.eptr_inv
  exact pass _ (WT (off:=0) h hl hle b o (fun j u hu=>(hrel.F _ _ (hF j u hu)).cell))
 ·rename_i d s off
  obtain ⟨b,n,rfl,hm⟩:=hp.ptr_inv
  have hd:=hrel.deep_le hm
  split at h
  case h_2=>cases h
  rename_i cs hb
  obtain ⟨b',T,arr,hm',_,hh,hl,hlc⟩:=hrel.cells hd hb
  rw [hm] at hm'
  cases hm'
  have:=WT (w:=w) h hl (Quk hd hlc) b 0 (fun j u hu=>by rw [Nat.zero_add,V6 hh];simpa using hu)
  rw [Nat.zero_add] at this
  exact pass _ this
 ·rename_i d s sz i off
  obtain ⟨b,n,rfl,hm⟩:=hp.rptr_inv
  have hd:=hrel.deep_le hm
  split at h
  case h_3=>cases h
  case h_2 =>
   rename_i cs hb
   split at h
   case h_2=>cases h
   rename_i ty hty
   split at h
   case h_2=>cases h
   rename_i xs hxs
   obtain ⟨h0,hq⟩:=Qn h
   obtain ⟨h1,hq2⟩:=Qn hq
   clear hq h
   simp only [Bool.and_eq_true] at h0
   obtain ⟨⟨⟨⟨k1,k2⟩,k3⟩,k4⟩,k5⟩:=h0
   obtain rfl:sz=1:=Nat.eq_of_beq_eq_true k1
   obtain rfl:off=0:=Nat.eq_of_beq_eq_true k2
   have hld:=Qwg k3 hxs k4 k5 h1 hq2
   obtain ⟨b',T,arr,hm',_,hh,hl,hlc⟩:=hrel.cells hd hb
   rw [hm] at hm'
   cases hm'
   have:=WT (w:=w) hld hl (Quk hd hlc) b 0 (fun j u hu=>by rw [Nat.zero_add,V6 hh];simpa using hu)
   rw [Nat.zero_add] at this
   rw [Nat.mul_one,Nat.add_zero]
   exact pass _ this
  rename_i ty xs hb
  obtain ⟨h0,h2⟩:=Qn h
  simp only [Bool.and_eq_true] at h0
  have hsz:sz=ty.cells:=Nat.eq_of_beq_eq_true h0.1
  obtain ⟨b',T,arr,hm',_,hh,hsize,_,hx⟩:=hrel.rows hd hb
  rw [hm] at hm'
  cases hm'
  have hxi:=hx _ _ (Qqy (d:=ty.dflt) h0.2)
  have hL:=Yf (M:=M) hxi
  subst hsz
  exact pass _ (WT (w:=w) h2 hL (GP dp ty _) b (i.toNat*ty.cells) (fun j u hu=>by
   rw [V6 hh]
   rw [List.getElem?_take] at hu
   split at hu
   ·rw [List.getElem?_drop] at hu;simpa using hu
   ·cases hu))
 ·rename_i k sz i off
  split at h
  case h_2=>cases h
  rename_i ty xs hb
  obtain ⟨h0,h2⟩:=Qn h
  simp only [Bool.and_eq_true] at h0
  have hsz:sz=ty.cells:=Nat.eq_of_beq_eq_true h0.1
  have hin:=Vr.1 h0.2
  obtain ⟨reg,cur,e,hτ,hn,hs,_,_,_,_,hh,_,hx⟩:=hrel.raw_at hb (by show 0<xs.length;omega)
  have hv:=hp.qptr_inv.2 reg hτ
  subst hv
  have hxi:=hx _ _ (Qqy (d:=ty.dflt) h0.2)
  have hL:=Yf (M:=M) hxi
  subst hsz
  exact pass _ (WT (w:=w) h2 hL (GP dp ty _) reg.g (i.toNat*ty.cells) (fun j u hu=>by
   rw [V6 hh]
   rw [List.getElem?_take] at hu
   split at hu
   ·rw [List.getElem?_drop] at hu;simpa using hu
   ·cases hu))
 ·rename_i k sz i off
  split at h
  case h_2=>cases h
  rename_i ty xs hb
  obtain ⟨h0,h2⟩:=Qn h
  simp only [Bool.and_eq_true] at h0
  have hsz:sz=ty.cells:=Nat.eq_of_beq_eq_true h0.1.1
  have hin:=Vr.1 h0.1.2
  obtain ⟨u0,bs0,hδ,a0,cap,hu0,q1,q2,q3,q4⟩:=hrel.dpi.has k _ hb
  simp only [List.cons.injEq,and_true] at hu0
  simp only at q1 q4
  rcases q4 with ⟨q4,_⟩ | ⟨b,o,arr,T,bss,rfl,hh,hbs,hbl,hfit0,hrow⟩
  ·omega
  subst hu0
  obtain rfl:=hp.dq_inv.2 b o _ _ _ hδ
  have hlt:i.toNat<bss.length:=by rw [hbl];show i.toNat<xs.length;omega
  have hxi:=(WQ (F:=M.F) h0.2 (hrow _ _ _ (Qqy (d:=ty.dflt) h0.1.2) (List.getElem?_eq_getElem hlt))).1
  have hL:=Yf (M:=M) hxi
  subst hsz
  exact pass _ (WT (w:=w) h2 hL (GP dp ty _) b (o+i.toNat*ty.cells) (fun j u hu=>by
   rw [V6 hh]
   rw [List.getElem?_take] at hu
   split at hu
   ·rw [List.getElem?_drop] at hu;simpa using hu
   ·cases hu))
 ·cases h
theorem Qpj {t:TypeId} {p:V} {vp:Value} {K:V→Option R} {r:R} (hv:QfC P st t p K=some r) (h:Rel P base w0 dp st θ M w) (htm:RelV M p vp):∃ ad,vp=.pointer (some ad):=by
 unfold QfC at hv
 split at hv
 ·obtain ⟨b,o,us,e,_⟩:=htm.eptr_inv;exact ⟨_,e⟩
 ·obtain ⟨b,n,e,_⟩:=htm.ptr_inv;exact ⟨_,e⟩
 ·obtain ⟨b,n,e,_⟩:=htm.rptr_inv;exact ⟨_,e⟩
 ·split at hv
  case h_2=>cases hv
  rename_i ty xs hb
  obtain ⟨h0,_⟩:=Qn hv
  simp only [Bool.and_eq_true] at h0
  have hin:=Vr.1 h0.2
  obtain ⟨reg,_,_,hτ,_⟩:=h.raw_at hb (by show 0<xs.length;omega)
  exact ⟨_,htm.qptr_inv.2 reg hτ⟩
 ·split at hv
  case h_2=>cases hv
  rename_i ty xs hb
  obtain ⟨h0,_⟩:=Qn hv
  simp only [Bool.and_eq_true] at h0
  have hin:=Vr.1 h0.1.2
  obtain ⟨u0,bs0,hδ,a0,cap,hu0,q1,q2,q3,q4⟩:=h.dpi.has _ _ hb
  simp only [List.cons.injEq,and_true] at hu0
  simp only at q1 q4
  rcases q4 with ⟨q4,_⟩ | ⟨b,o,arr,T,bss,rfl,_⟩
  ·omega
  subst hu0
  exact ⟨_,htm.dq_inv.2 b o _ _ _ hδ⟩
 ·cases hv
end
end Go.Ab
