import Derived.Test.YtkabjoifaffddaaGreatAb8
namespace Go.Ab
variable {R:Type}
theorem QzU (l:List Value) (s n off:Nat) (v:List Value) (_:s+n≤l.length) (h2:off+v.length≤n) :
  l.take s++(((l.drop s).take n).take off++v++((l.drop s).take n).drop (off+v.length))++l.drop (s+n)=l.take (s+off)++v++l.drop (s+off+v.length):=by
 have e1:((l.drop s).take n).take off=(l.drop s).take off:=by rw [List.take_take];congr 1;omega
 have e2:l.take (s+off)=l.take s++(l.drop s).take off:=List.take_add
 have e3:((l.drop s).take n).drop (off+v.length)++l.drop (s+n)=l.drop (s+off+v.length):=by
  rw [List.drop_take,List.drop_drop]
  have e4:l.drop (s+n)=(l.drop (s+(off+v.length))).drop (n - (off+v.length)):=by rw [List.drop_drop];congr 1;omega
  rw [e4,List.take_append_drop,Nat.add_assoc]
 rw [e1,e2,List.append_assoc,List.append_assoc,List.append_assoc,List.append_assoc,List.append_assoc,e3]
theorem Qwi (l v:List Value) (a n:Nat) (h:a+v.length≤n) (hn:n≤l.length):(l.take n).take a++v++(l.take n).drop (a+v.length)=(l.take a++v++l.drop (a+v.length)).take n:=by
 rw [List.take_take,Nat.min_eq_left (by omega),List.drop_take,List.append_assoc,List.append_assoc,List.take_append,List.take_append]
 have e1:(l.take a).take n=l.take a:=by rw [List.take_take,Nat.min_eq_right (by omega)]
 have e2:(l.take a).length=a:=by rw [List.length_take];omega
 rw [e1,e2,List.take_of_length_le (by omega:v.length≤n - a),Nat.sub_sub]
section
variable {P:Program} {base:Base} {w0:Orig} {dp nn:Nat} {st:St} {θ:Nat→Nat→Value} {M M':Me} {a:Act} {w w':World}
def Turns (P:Program) (base:Base) (w0:Orig) (dp:Nat) (θ:Nat→Nat→Value) (w:World) (K:V→Z9 R) (r:R) (s:Sem Value):Prop:=∃ v st' u w' M',K v st'=some r∧s.run P w=.ok u w'∧Rel P base w0 dp st' θ M' w'∧RelV M' v u∧v.le dp=true
def TurnsB (P:Program) (base:Base) (w0:Orig) (dp:Nat) (θ:Nat→Nat→Value) (w:World) (K:V→Z9 R) (r:R) (s:Sem Value):Prop:=∃ v st' u w' M',K v st'=some r∧s.run P w=.ok u w'∧Rel P base w0 dp st' θ M' w'∧RelV M' v u∧v.le dp=true∧BelowN w.heap.size w w'
theorem TurnsB.turns {K:V→Z9 R} {r:R} {s:Sem Value} (h:TurnsB P base w0 dp θ w K r s):Turns P base w0 dp θ w K r s :=
 let ⟨v,st',u,w',M',h1,h2,h3,h4,h5,_⟩:=h;⟨v,st',u,w',M',h1,h2,h3,h4,h5⟩
theorem Turns.of (h:Rel P base w0 dp st θ M w) {K:V→Z9 R} {r:R} {s:Sem Value} (hg:Eh P M w dp (fun v=>K v st) r s):Turns P base w0 dp θ w K r s :=
 let ⟨v,u,h1,h2,h3,h4⟩:=hg;⟨v,st,u,w,M,h1,h2 w (.refl _ _),h,h3,h4⟩
theorem Qmx {t:TypeId} {v:Value}:(newVar t v).run P w=.ok ⟨w.heap.size,0,none⟩ (w.alloc (.cells v.cells t)):=by
 simp [newVar,newRow,newObj,Sem.run]
theorem Qwj (h:Rel P base w0 dp st θ M w) {e:TypeId} {s:Nat} {z:List V} (hz:zeroCells P e=some z) (hb:st.bx dp s=.none) {K:V→Z9 R} {r:R} (hk:K (.ptr dp s 0) (st.setB dp s (.cells z))=some r) :
  TurnsB P base w0 dp θ w K r (Instr.alloc e true (.tuple #[])):=by
 obtain ⟨i,v,hi,hv,rfl,h1⟩:=Xs hz
 refine ⟨_,_,.pointer (some ⟨w.heap.size,0,none⟩),w.alloc (.cells v.cells e),_,hk,?_,h.newBox hb (n:=0) ⟨rfl,QbO M _ (fun u hu=>h1 u (by simpa using hu)),Qpo dp _⟩,?_,?_,(BelowN.refl _ _).alloc (Nat.le_refl _) _⟩
 ·unfold Instr.alloc
  simp only [Sem.run_bind,QcH hi hv,Result.andThen_ok,Qmx,Sem.run_pure]
 ·exact .ptr _ _ _ _ 0 (by simp [Me.box])
 ·simp [V.le]
theorem QyU (h:Rel P base w0 dp st θ M w) {e:TypeId} {s:Nat} {v:V} {u:Value} (hv:RelV M v u) (hle:v.le dp=true) (hp:v.plain=true) (hb:st.bx dp s=.none) {K:V→Z9 R} {r:R} (hk:K (.ptr dp s 0) (st.setB dp s (.cells v.cellsOf))=some r) :
  TurnsB P base w0 dp θ w K r (Instr.box e u):=by
 refine ⟨_,_,.pointer (some ⟨w.heap.size,0,none⟩),w.alloc (.cells u.cells e),_,hk,?_,h.newBox hb (n:=0) ⟨rfl,Ua hv hp,Qmw hle⟩,?_,?_,(BelowN.refl _ _).alloc (Nat.le_refl _) _⟩
 ·unfold Instr.box
  simp only [Sem.run_bind,Result.andThen_ok,Qmx,Sem.run_pure]
 ·exact .ptr _ _ _ _ 0 (by simp [Me.box])
 ·simp [V.le]
theorem Ul {t:TypeId} {u:Value} {g o:Nat} {cur:Array Value} {T:TypeId} (hg:w.heap[g]? = some (.cells cur T (0,0))) (hi:(P.info? t).isSome=true) (hsz:u.cells.size=P.cellsOf t) (hfit:o+u.cells.size≤cur.size) (h1:∀ x∈u.cells.toList,x.oneCell'=true) :
  (Instr.storeAt t (.pointer (some ⟨g,o,none⟩)) u).run P w=.ok () (w.setRow g (cur.toList.take o++u.cells.toList++cur.toList.drop (o+u.cells.size)).toArray):=by
 obtain ⟨i,hi⟩:=Option.isSome_iff_exists.1 hi
 have hs:i.size=u.cells.size:=by rw [hsz];simp [Program.cellsOf,hi]
 have:=run_storeCells_at P g o T u.cells.toList 0 cur w hg (by simpa using hfit) h1
 simp only [Nat.add_zero] at this
 unfold Instr.storeAt Instr.sureAddr storeVar
 simp only [Sem.run_bind,Sem.run_pure,Result.andThen_ok,Zy hi]
 rw [if_neg (by rw [hs];simp),this,Array.length_toList]
theorem Qvq (h:Rel P base w0 dp st θ M w) {t:TypeId} {p v:V} {vp u:Value} {K:Z9 R} {r:R} (hs:Qxh P st t p v K=some r) (hp:RelV M p vp) (hpl:p.le dp=true) (hv:RelV M v u) :
  ∃ st' w',K st'=some r∧(Instr.storeAt t vp u).run P w=.ok () w'∧Rel P base w0 dp st' θ M w':=by
 unfold Qxh at hs
 split at hs
 ·rename_i d s off
  obtain ⟨b,n,rfl,hm⟩:=hp.ptr_inv
  have hd:=h.deep_le hm
  split at hs
  case h_2=>cases hs
  rename_i cs hb
  obtain ⟨h0,hs⟩:=Qn hs
  simp only [Bool.and_eq_true] at h0
  obtain ⟨⟨⟨⟨h1,h2⟩,h3⟩,h4⟩,h5⟩:=h0
  have h1:=Nat.eq_of_beq_eq_true h1
  have h2:=Nat.le_of_ble_eq_true h2
  obtain ⟨b',T,arr,hm',hbb,hh,hl,hlc⟩:=h.cells hd hb
  rw [hm] at hm'
  cases hm'
  have hc:=Ua hv h3
  have hul:u.cells.size=v.cellsOf.length:=by rw [hc.len];simp
  have hal:arr.size=cs.length:=by rw [hl.len];simp
  have hrun:=Ul (P:=P) (t:=t) hh h5 (by rw [hul,h1]) (o:=off) (by omega) hc.one
  refine ⟨_,_,hs,hrun,h.setBox hm hh hbb ⟨rfl,?_,QfG hlc h4⟩⟩
  have:=Uk hl hc off
  simpa using this
 ·rename_i d s sz i off
  obtain ⟨b,n,rfl,hm⟩:=hp.rptr_inv
  have hd:=h.deep_le hm
  split at hs
  case h_3=>cases hs
  case h_2 =>
   rename_i cs hb
   split at hs
   case h_2=>cases hs
   rename_i ty hty
   split at hs
   case h_2=>cases hs
   rename_i x xs hx hxs
   obtain ⟨h0,hq⟩:=Qn hs
   obtain ⟨h1,hq2⟩:=Qn hq
   clear hq hs
   simp only [Bool.and_eq_true] at h0
   obtain ⟨⟨⟨⟨k1,k2⟩,k3⟩,k4⟩,k5⟩:=h0
   obtain rfl:sz=1:=Nat.eq_of_beq_eq_true k1
   obtain rfl:off=0:=Nat.eq_of_beq_eq_true k2
   have k4:=Nat.eq_of_beq_eq_true k4
   have hv1:=Qul k3 hx
   have hcs:=Qpi k3 hxs
   have hix:=Vr.1 h1
   have hin:i.toNat<xs.length:=by omega
   obtain ⟨b',T,arr,hm',hbb,hh,hl,hlc⟩:=h.cells hd hb
   rw [hm] at hm'
   cases hm'
   have hc:=Ua hv (by rw [hv1];rfl)
   have hco:v.cellsOf=[.d ty x]:=by rw [hv1];rfl
   have hul:u.cells.size=1:=by have:=hc.len;rw [hco] at this;simpa using this.symm
   have hal:arr.size=cs.length:=by rw [hl.len];simp
   have hcl:cs.length=xs.length:=by rw [hcs];simp
   have hrun:=Ul (P:=P) (t:=t) hh k5 (by rw [hul,k4]) (o:=i.toNat) (by omega) hc.one
   rw [Nat.mul_one,Nat.add_zero]
   have hset:Qjk ty i x 0 cs=YO cs i.toNat v.cellsOf:=by
    rw [hco,hcs,Qum k3 xs 0 i.toNat (by omega)]
    unfold YO
    rw [List.set_eq_take_append_cons_drop,if_pos hin]
    simp [List.map_take,List.map_drop]
   have:=Uk hl hc i.toNat
   refine ⟨_,_,hq2,hrun,h.setBox hm hh hbb ⟨rfl,?_,?_⟩⟩
   ·rw [hset];simpa using this
   ·rw [hset];exact QfG hlc (by rw [hco];rfl)
  rename_i ty xs hb
  obtain ⟨h0,hs2⟩:=Qn hs
  clear hs
  simp only [Bool.and_eq_true] at h0
  obtain ⟨⟨⟨⟨⟨k1,k2⟩,h1⟩,h3⟩,h5⟩,h2⟩:=h0
  have k1:sz=ty.cells:=Nat.eq_of_beq_eq_true k1
  have h1:=Nat.eq_of_beq_eq_true h1
  have h2:=Nat.le_of_ble_eq_true h2
  split at hs2
  case h_2=>cases hs2
  rename_i x hx
  obtain ⟨b',T,arr,hm',hbb,hh,hsize,hmax,hrow⟩:=h.rows hd hb
  rw [hm] at hm'
  cases hm'
  have hc:=Ua hv h3
  have hul:u.cells.size=v.cellsOf.length:=by rw [hc.len];simp
  have hrows:RowsRel M.F ty xs arr.toList:=⟨by simpa using hsize,hrow⟩
  have hix:=Vr.1 k2
  have hin:i.toNat<xs.length:=by omega
  have hfit1:i.toNat*ty.cells+ty.cells≤arr.size:=by
   rw [hsize,← Nat.succ_mul];exact Nat.mul_le_mul_right _ hin
  subst k1
  have hrun:=Ul (P:=P) (t:=t) hh h5 (by rw [hul,h1]) (o:=i.toNat*ty.cells+off) (by omega) hc.one
  have hold:=hrow _ _ (Qqy (d:=ty.dflt) k2)
  have hex:=Yf (M:=M) hold
  have hsp:=Uk hex hc off
  have hnew:=V5 hx hsp
  have hset:=hrows.set hin hnew
  have hlen:=hnew.len
  refine ⟨_,_,hs2,hrun,h.setBox hm hh hbb ⟨by simp,?_,by simpa using hmax,?_⟩⟩
  ·have:=hset.len
   simp only [List.size_toArray,List.length_append,List.length_take,List.length_drop,Array.length_toList,List.length_set] at this ⊢
   omega
  ·intro j y hy
   have:=hset.at_ j y hy
   have hval:=QzU arr.toList (i.toNat*ty.cells) ty.cells off u.cells.toList (by simpa using hfit1) (by simp;omega)
   rw [hlen] at this
   rw [hval] at this
   simpa using this
 ·rename_i k sz i off
  split at hs
  case h_2=>cases hs
  rename_i ty xs hb
  obtain ⟨h0,hs2⟩:=Qn hs
  clear hs
  simp only [Bool.and_eq_true] at h0
  obtain ⟨⟨⟨⟨⟨k1,k2⟩,h1⟩,h3⟩,h5⟩,h2⟩:=h0
  have k1:sz=ty.cells:=Nat.eq_of_beq_eq_true k1
  have h1:=Nat.eq_of_beq_eq_true h1
  have h2:=Nat.le_of_ble_eq_true h2
  split at hs2
  case h_2=>cases hs2
  rename_i x hx
  have hix:=Vr.1 k2
  obtain ⟨reg,cur,e,hτ,hn,hsz,hbb,hcap,hmax,hF,hh,hsize,hrow⟩:=h.raw_at hb (by show 0<xs.length;omega)
  obtain rfl:=hp.qptr_inv.2 reg hτ
  simp only at hn hsz hrow
  have hc:=Ua hv h3
  have hul:u.cells.size=v.cellsOf.length:=by rw [hc.len];simp
  have hin:i.toNat<xs.length:=by omega
  have hall:xs.length*ty.cells≤cur.size:=by
   rw [hsize,hsz,← hn];exact Nat.mul_le_mul_right _ hcap
  have hfit0:i.toNat*ty.cells+ty.cells≤xs.length*ty.cells:=by
   rw [← Nat.succ_mul];exact Nat.mul_le_mul_right _ hin
  have hrows:RowsRel M.F ty xs (cur.toList.take (xs.length*ty.cells)):=by
   refine ⟨by simp;omega,fun j y hy=>?_⟩
   have hj:j<xs.length:=(List.getElem?_eq_some_iff.1 hy).1
   have hjf:j*ty.cells+ty.cells≤xs.length*ty.cells:=by rw [← Nat.succ_mul];exact Nat.mul_le_mul_right _ hj
   have:=hrow j y hy
   rwa [List.drop_take,List.take_take,Nat.min_eq_left (by omega)]
  subst k1
  have hrun:=Ul (P:=P) (t:=t) hh h5 (by rw [hul,h1]) (o:=i.toNat*ty.cells+off) (by omega) hc.one
  have hold:=hrow _ _ (Qqy (d:=ty.dflt) k2)
  have hex:=Yf (M:=M) hold
  have hsp:=Uk hex hc off
  have hnew:=V5 hx hsp
  have hset:=hrows.set hin hnew
  have hlen:=hnew.len
  refine ⟨_,_,hs2,hrun,h.setRaw hb hτ hh (by simp;omega) (by simp) rfl ?_⟩
  intro j y hy
  simp only at hy ⊢
  have hj:j<xs.length:=by have:=(List.getElem?_eq_some_iff.1 hy).1;simpa using this
  have hjf:j*ty.cells+ty.cells≤xs.length*ty.cells:=by rw [← Nat.succ_mul];exact Nat.mul_le_mul_right _ hj
  have:=hset.at_ j y hy
  rw [hlen] at this
  have hcl:cur.toList.length=cur.size:=Array.length_toList
  have hval:=QzU (cur.toList.take (xs.length*ty.cells)) (i.toNat*ty.cells) ty.cells off u.cells.toList (by rw [List.length_take];omega) (by rw [Array.length_toList];omega)
  rw [show (((cur.toList.take (xs.length*ty.cells)).drop (i.toNat*ty.cells)).take ty.cells)=(cur.toList.drop (i.toNat*ty.cells)).take ty.cells by rw [List.drop_take,List.take_take,Nat.min_eq_left (by omega)]] at hval
  rw [hval,Qwi _ _ _ _ (by rw [Array.length_toList];omega) (by omega),List.drop_take,List.take_take,Nat.min_eq_left (by omega)] at this
  simpa using this
 ·cases hs
end
end Go.Ab
