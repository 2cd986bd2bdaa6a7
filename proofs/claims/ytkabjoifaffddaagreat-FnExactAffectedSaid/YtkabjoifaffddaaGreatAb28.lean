import Derived.Test.YtkabjoifaffddaaGreatAb27
namespace Go.Ab
section
variable {P:Program} {L:Pl} {nn:Nat} {s s':TS} {k k':Int} {us:List Value} {a:Act} {w0 w:World} {arr0:Array Value} {T0:TypeId} {cs cs':List V} {bs:List Nat} {E:TEnv}
theorem Mem.us_len (h:Mem L w0 arr0 T0 cs us bs w):us.length=cs.length:=(QmA h.deep).symm
theorem Mem.cell (h:Mem L w0 arr0 T0 cs us bs w) {j:Nat} {u:Value} (hu:us[j]? = some u):w.cell? ⟨L.B,L.O+j,none⟩=some u:=by
 obtain ⟨arr,h1,h2,h3,h4⟩:=h.at_
 have hj:us[j]? = some u:=hu
 rw [h4,List.getElem?_take] at hj
 split at hj
 case isFalse=>cases hj
 rw [List.getElem?_drop] at hj
 simp [World.cell?,h1]
 simpa using hj
theorem After.value (hs:SimV L nn s k us a) (hm:Mem L w0 arr0 T0 cs us bs w) (hc:cs.length=E.m) (h0:0≤k) (h1:k≤ZT) {o:Oper} (hd:∀ t,o.dst=some t→t<nn) {Q:Exit→Act→World→Prop} {m:MV} {u:Value} (hrun:(execOp a.eval o).run P w=.ok (.value u) w) (hmv:QgO L s k us m u) (hvl:m.vle s.ver s.mv) (e1:s'=s.put o.dst m) (hr:some (cs,k)=some (cs',k')) :
  o.wp P a w (After E L nn w0 arr0 T0 bs s us s' cs' k') Q:=by
 subst e1
 simp only [Option.some.injEq,Prod.mk.injEq] at hr
 obtain ⟨rfl,rfl⟩:=hr
 exact QnY hrun ⟨us,⟨by rw [TS.put_mv];exact Nat.le_refl _,fun _=>rfl⟩,hs.put rfl (Nat.le_refl _) (fun _=>rfl) (Nat.le_refl _) (fun _=>rfl) hd hmv hvl,hm,hc,h0,h1⟩
theorem QwO {off:Nat} {m:MV} {v:Value} {a1:Act1} (h:QvM s off m=some a1) (hv:QgO L s k us m v) (h0:0≤k) (h1:k≤ZT) :
  ∃ x:V,(∀ cs,QaH a1 (cs,k)=QwM cs off x k)∧(∀ w,Z1 w x v [])∧v.cells=#[v]∧v.oneCell'=true:=by
 have hkk:=QjK h0 h1
 unfold QvM at h
 split at h
 ·obtain ⟨hj,h2⟩:=Qn h
  cases h2
  have hv:=hv (Nat.eq_of_beq_eq_true hj)
  subst hv
  exact ⟨_,fun cs=>rfl,fun w=>⟨⟨rfl,hkk⟩,rfl⟩,rfl,rfl⟩
 ·obtain ⟨hj,h2⟩:=Qn h
  cases h2
  obtain ⟨b,rfl,q1,q2⟩:=hv (Nat.eq_of_beq_eq_true hj)
  exact ⟨_,fun cs=>rfl,fun w=>⟨⟨b,rfl,q1,q2⟩,rfl⟩,rfl,rfl⟩
 ·obtain ⟨hj,h2⟩:=Qn h
  cases h2
  have hv:=hv (Nat.eq_of_beq_eq_true hj)
  subst hv
  exact ⟨_,fun cs=>rfl,fun w=>⟨rfl,rfl⟩,rfl,rfl⟩
 ·obtain ⟨hj,h2⟩:=Qn h
  cases h2
  have hv:=hv (Nat.eq_of_beq_eq_true hj)
  subst hv
  exact ⟨_,fun cs=>rfl,fun w=>⟨⟨rfl,Wk _ _⟩,rfl⟩,rfl,rfl⟩
 ·cases h
theorem Mem.store (hm:Mem L w0 arr0 T0 cs us bs w) {off:Nat} {x c:V} {v:Value} (hc:cs[off]? = some c) (hsc:c.scl=true) (hx:∀ w,Z1 w x v []) {arr:Array Value} (harr:w.heap[L.B]? = some (.cells arr T0 (0,0))) (hO:L.O+off<arr.size) :
  Mem L w0 arr0 T0 (cs.set off x) (us.set off v) bs (w.setRow L.B (arr.toList.take (L.O+off)++[v]++arr.toList.drop (L.O+off+1)).toArray):=by
 have hul:=hm.us_len
 obtain ⟨⟨arr',m1,m2,m3,m4⟩,m5,m6,m7,m8,m9,m10,m11,m12,⟨m13,m13'⟩,m14,m15⟩:=hm
 rw [harr] at m1
 cases m1
 have hoff:off<cs.length:=(List.getElem?_eq_some_iff.1 hc).1
 have hblk:=Ub (w:=w) (cs:=(arr.toList.take (L.O+off)++[v]++arr.toList.drop (L.O+off+1)).toArray) harr
 have hset:arr.toList.take (L.O+off)++[v]++arr.toList.drop (L.O+off+1)=arr.toList.set (L.O+off) v:=by
  rw [List.set_eq_take_append_cons_drop,if_pos (by simpa using hO)];simp
 rw [hset] at hblk ⊢
 refine ⟨⟨(arr.toList.set (L.O+off) v).toArray,by rw [hblk,if_pos rfl],by simpa using m2,fun j hj=>?_,?_⟩,?_,by simpa using m6,m7,m8,by rw [← m9];rfl,by rw [← m10];rfl,by rw [← m11];rfl,by rw [size_setRow];exact m12,⟨m13,m13'⟩,fun c h1 h2 h3=>?_,m15⟩
 ·rw [List.length_set] at hj
  have:=m3 j hj
  rw [← this]
  simp only [List.getElem?_toArray]
  rw [List.getElem?_set_ne (by omega)]
  simp
 ·rw [m4]
  apply List.ext_getElem?
  intro j
  simp only [List.getElem?_set,List.getElem?_take,List.getElem?_drop,List.length_set,List.length_take,List.length_drop,Array.length_toList]
  have hq:L.O+cs.length≤arr.size:=by rw [m2];exact m6
  by_cases e:off=j
  ·subst e
   rw [if_pos rfl,if_pos (by omega),if_pos hoff,if_pos rfl,if_pos (by omega)]
  ·have e2:¬ (L.O+off=L.O+j):=by omega
   simp only [if_neg e,if_neg e2]
 ·refine QsV (QaI m5 fun c hc=>?_) hc hsc (hx _)
  rw [hblk,if_neg (fun e=>m7 (by rw [← e];exact hc))]
 ·rw [hblk,if_neg h2]
  exact m14 c h1 h2 h3
theorem QsW (hE:EnvOk E P L) (hs:SimV L nn s k us a) (hm:Mem L w0 arr0 T0 cs us bs w) (hc:cs.length=E.m) (h0:0≤k) (h1:k≤ZT) {o:Oper} {as:List Act1}
  (h:QBB E nn o s=some (s',as)) (hr:Y2 as (cs,k)=some (cs',k')) (Q:Exit→Act→World→Prop) :
  o.guard=none∧o.wp P a w (After E L nn w0 arr0 T0 bs s us s' cs' k') Q:=by
 have hkk:=QjK h0 h1
 have hi:=hE.i
 have hP:=hE.prog
 unfold QBB at h
 obtain ⟨hdok,h2⟩:=Qn h
 clear h
 have hd:=YQ hdok
 split at h2
 case h_1=>cases h2
 rename_i hg
 refine ⟨hg,?_⟩
 split at h2
 ·rename_i x hop
  cases h2
  exact After.value hs hm hc h0 h1 hd (m:=s.ev x) (u:=a.eval x) (by simp [execOp,hop]) (hs.ev x) (hs.evle x) rfl hr
 ·rename_i x hop
  cases h2
  exact After.value hs hm hc h0 h1 hd (m:=s.ev x) (u:=a.eval x) (by simp [execOp,hop]) (hs.ev x) (hs.evle x) rfl hr
 ·rename_i op t x y t' hop
  split at h2
  case h_2=>cases h2
  exact QwN hE hs hm hc h0 h1 hd hop h2 hr Q
 ·rename_i ta tb x hop
  split at h2
  case h_2=>cases h2
  rename_i k0 j e1 e2 e3
  obtain ⟨hj,h3⟩:=Qn h2
  clear h2
  cases h3
  rw [hP] at e1 e2
  have hx:=hs.ev x
  rw [e3] at hx
  have hx:=hx (Nat.eq_of_beq_eq_true hj)
  refine After.value hs hm hc h0 h1 hd (m:=.byt j) (u:=.int .u8 (IntKind.wrap .u8 k)) ?_ (fun _=>rfl) (by show j≤s.ver;rw [Nat.eq_of_beq_eq_true hj];exact Nat.le_refl _) rfl hr
  simp [execOp,hop,hx,convert,run_underlying e1,run_underlying e2,Conv.intToInt]
 ·rename_i args ats hop
  split at h2
  case h_2=>cases h2
  rename_i x t ea et
  split at h2
  case h_2=>cases h2
  rename_i e e1 e2
  cases h2
  rw [hP] at e2
  have hx:=hs.ev x
  rw [e1] at hx
  obtain ⟨O0,cap,e3,_⟩:=hE.hdr
  have hx:a.eval x=L.hdr:=hx
  rw [e3] at hx
  have hx:a.eval x=.slice (some ⟨L.B,O0,none⟩) L.n.toNat cap:=hx
  have ea':args=#[x]:=by rw [← Array.toArray_toList (xs:=args),ea]
  have et':ats=#[t]:=by rw [← Array.toArray_toList (xs:=ats),et]
  refine After.value hs hm hc h0 h1 hd (m:=.len) (u:=.int .i64 L.n) ?_ rfl trivial rfl hr
  have:=run_len_slice (P:=P) w t o.type (some ⟨L.B,O0,none⟩) L.n.toNat cap (by rw [XV e2];exact e2)
  rw [show ((L.n.toNat:Nat):Int)=L.n from Int.toNat_of_nonneg (by omega)] at this
  simp [execOp,hop,ea',et',resolve,invoke,builtin,hx,this]
  rfl
 ·rename_i g args ats hop
  exact QvN hE hs hm hc h0 h1 hd hop h2 hr Q
 ·rename_i t x i hop
  split at h2
  case h_2=>cases h2
  rename_i e e1 e2 e3
  obtain ⟨hb,h3⟩:=Qn h2
  clear h2
  cases h3
  rw [hP] at e3 hb
  simp only [Bool.and_eq_true] at hb
  have hcell:=Nat.eq_of_beq_eq_true hb.1.2
  obtain ⟨inf,hinf⟩:=Option.isSome_iff_exists.1 hb.2
  have hx:=hs.ev x
  have hiv:=hs.ev i
  rw [e1] at hx
  rw [e2] at hiv
  have hiv:a.eval i=.int .i64 L.i:=hiv
  obtain ⟨O0,cap,e4,e5⟩:=hE.hdr
  have hx:a.eval x=L.hdr:=hx
  rw [e4] at hx
  have hx:a.eval x=.slice (some ⟨L.B,O0,none⟩) L.n.toNat cap:=hx
  have ht:=Gm e3
  have hsz:inf.size=E.m:=by rw [← hcell];simp [Program.cellsOf,hinf]
  refine After.value hs hm hc h0 h1 hd (m:=.elp 0) (u:=.pointer (some ⟨L.B,L.O+0,none⟩)) ?_ rfl trivial rfl hr
  have hrun:(Instr.indexAt t (a.eval x) (a.eval i)).run P w=.ok (.pointer (some ⟨L.B,L.O+0,none⟩)) w:=by
   rw [hx,hiv,run_indexAt_slice (P:=P) w t _ _ _ .i64 L.i (by rw [XV ht];exact ht),if_pos (by omega),XV ht,Zy hinf,Result.andThen_ok,hsz,Addr.add_lit,e5,Nat.add_zero]
  simp [execOp,hop,hrun]
 ·rename_i t x f hop
  split at h2
  case h_2=>cases h2
  rename_i off fo ft e1 e2
  obtain ⟨hz,h3⟩:=Qjq h2
  clear h2
  cases h3
  rw [hP] at e2 hz
  have hx:=hs.ev x
  rw [e1] at hx
  have hx:a.eval x=.pointer (some ⟨L.B,L.O+off,none⟩):=hx
  obtain ⟨fs,fd,q1,q2,q3,q4⟩:=QhJ e2
  have hcz:P.cellsOf ft≠0:=fun e=>by rw [e] at hz;cases hz
  obtain ⟨inf,hinf,hs'⟩:=QlP hcz
  refine After.value hs hm hc h0 h1 hd (m:=.elp (off+fo)) (u:=.pointer (some ⟨L.B,L.O+(off+fo),none⟩)) ?_ rfl trivial rfl hr
  have hrun:(Instr.fieldAt t (a.eval x) f).run P w=.ok (.pointer (some ⟨L.B,L.O+(off+fo),none⟩)) w:=by
   rw [hx]
   subst q3;subst q4
   simp [Instr.fieldAt,run_underlying q1,q2,Instr.sureAddr,fieldPlace,Zy hinf,hs',hcz,Addr.add_lit,Nat.add_assoc]
  simp [execOp,hop,hrun]
 ·rename_i t x hop
  split at h2
  case h_2=>cases h2
  rename_i off ty e1 e2
  obtain ⟨hfit,h3⟩:=Qn h2
  clear h2
  cases h3
  rw [hP] at e2
  have hfit:=Nat.le_of_ble_eq_true hfit
  have hx:=hs.ev x
  rw [e1] at hx
  have hx:a.eval x=.pointer (some ⟨L.B,L.O+off,none⟩):=hx
  obtain ⟨n,_,hat,hcells,inf,hinf,hsz⟩:=JP e2
  obtain ⟨d,hdd⟩:=hat.und
  have hag:=Qjr hat
  have hul:=hm.us_len
  cases hsc:ty.scalar with
  | true =>
   have hc1:ty.cells=1:=by cases ty<;>first | rfl | (simp [Ty.scalar] at hsc)
   have hlt:off<us.length:=by omega
   refine After.value hs hm hc h0 h1 hd (m:=.sub off ty s.mv) (u:=us[off]) ?_ (fun _=>by rw [hsc];exact List.getElem?_eq_getElem hlt) (Nat.le_refl _) rfl hr
   have hcell:=hm.cell (List.getElem?_eq_getElem hlt)
   have hrun:(loadVar t ⟨L.B,L.O+off,none⟩).run P w=.ok us[off] w:=by
    unfold loadVar
    rw [Sem.run_bind,QbM hdd,hag,hsc,Result.andThen_ok]
    simp only [Bool.not_true,Bool.false_eq_true,if_false,run_load,hcell]
   simp [execOp,hop,hx,Instr.loadAt,Instr.sureAddr,hrun]
  | false =>
   have hload:(loadCells ⟨L.B,L.O+off,none⟩ ((us.drop off).take ty.cells).length).run P w=.ok ((us.drop off).take ty.cells).toArray w:=by
    refine run_loadCells_list w _ _ fun j v hv=>?_
    rw [List.getElem?_take] at hv
    split at hv
    ·rw [List.getElem?_drop] at hv
     rw [Addr.add_lit,Nat.add_assoc]
     exact hm.cell hv
    ·cases hv
   have hl:((us.drop off).take ty.cells).length=ty.cells:=by simp;omega
   rw [hl] at hload
   refine After.value hs hm hc h0 h1 hd (m:=.sub off ty s.mv) (u:=.agg ((us.drop off).take ty.cells).toArray) ?_ (fun _=>by rw [hsc]) (Nat.le_refl _) rfl hr
   have hrun:(loadVar t ⟨L.B,L.O+off,none⟩).run P w=.ok (.agg ((us.drop off).take ty.cells).toArray) w:=by
    unfold loadVar
    rw [Sem.run_bind,QbM hdd,hag,hsc,Result.andThen_ok]
    simp only [Bool.not_false,if_true,Sem.run_bind,Zy hinf,Result.andThen_ok,hsz,hload,Sem.run_pure]
   simp [execOp,hop,hx,Instr.loadAt,Instr.sureAddr,hrun]
 ·rename_i t x y hop
  split at h2
  case h_2=>cases h2
  rename_i off e1
  split at h2
  case h_2=>cases h2
  rename_i a1 e2
  obtain ⟨hb,h3⟩:=Qn h2
  clear h2
  cases h3
  rw [hP] at hb
  simp only [Bool.and_eq_true] at hb
  obtain ⟨⟨hlt,hone⟩,hinf⟩:=hb
  have hlt:off<E.m:=Nat.le_of_ble_eq_true hlt
  have hone:=Nat.eq_of_beq_eq_true hone
  have hx:=hs.ev x
  rw [e1] at hx
  have hx:a.eval x=.pointer (some ⟨L.B,L.O+off,none⟩):=hx
  obtain ⟨v,q1,q2,q3,q4⟩:=QwO e2 (hs.ev y) h0 h1
  simp only [Y2,q1,QwM] at hr
  split at hr
  case h_2=>simp at hr
  rename_i c hcc
  cases hsc:c.scl with
  | false=>rw [hsc] at hr;simp at hr
  | true =>
  rw [hsc] at hr
  simp only [cond_true,Option.bind_some,Option.some.injEq,Prod.mk.injEq] at hr
  obtain ⟨rfl,rfl⟩:=hr
  obtain ⟨arr,m1,m2,_,_⟩:=hm.at_
  have hf:=hm.fit
  have hst:=Ul (P:=P) (t:=t) (u:=a.eval y) m1 hinf (o:=L.O+off) (by rw [q3,hone];rfl) (by rw [q3];show L.O+off+1≤_;omega) (by rw [q3];simpa using q4)
  rw [q3] at hst
  have hmem:=hm.store hcc hsc q2 m1 (by omega)
  have hrun:(execOp a.eval o).run P w=.ok .skip (w.setRow L.B (arr.toList.take (L.O+off)++[a.eval y]++arr.toList.drop (L.O+off+1)).toArray):=by
   have:(#[a.eval y]:Array Value).size=1:=rfl
   rw [this] at hst
   simp only [execOp,hop,hx,Sem.run_bind,hst]
   rfl
  unfold Oper.wp
  rw [hrun,Oper.upon_skip]
  exact ⟨_,⟨by rw [TS.put_mv];exact Nat.le_succ _,fun e=>by rw [TS.put_mv] at e;exact absurd e (by simp)⟩,hs.put (s1:={ s with mv:=s.mv+1 }) rfl (Nat.le_refl _) (fun _=>rfl) (Nat.le_succ _) (fun e=>absurd e (by simp)) hd (m:=.any) trivial trivial,hmem,by rw [List.length_set];exact hc,h0,h1⟩
 ·cases h2
theorem QqJ (hE:EnvOk E P L) {ops:Array Oper} {Q:Exit→Act→World→Prop}:∀ (l:List Oper) {s s':TS} {k k':Int} {us:List Value} {a:Act} {w:World} {cs cs':List V} {as:List Act1},
  SimV L nn s k us a→Mem L w0 arr0 T0 cs us bs w→cs.length=E.m→0≤k→k≤ZT→QyD E nn l s=some (s',as)→Y2 as (cs,k)=some (cs',k') →
  (∀ a' w',(∃ us',(s.mv≤s'.mv∧(s'.mv=s.mv→us'=us))∧SimV L nn s' k' us' a'∧Mem L w0 arr0 T0 cs' us' bs w'∧cs'.length=E.m∧0≤k'∧k'≤ZT)→Q .normal a' w')→wpList P ops Q l a w
 | [],s,s',k,k',us,a,w,cs,cs',as,hs,hm,hc,h0,h1,h,hr,hQ=>by
  cases h
  simp only [Y2,Option.some.injEq,Prod.mk.injEq] at hr
  obtain ⟨rfl,rfl⟩:=hr
  exact hQ _ _ ⟨us,⟨Nat.le_refl _,fun _=>rfl⟩,hs,hm,hc,h0,h1⟩
 | o::l,s,s',k,k',us,a,w,cs,cs',as,hs,hm,hc,h0,h1,h,hr,hQ=>by
  simp only [QyD] at h
  split at h
  case h_2=>cases h
  rename_i s1 a1 e1
  split at h
  case h_2=>cases h
  rename_i s2 a2 e2
  cases h
  rw [Qcq] at hr
  obtain ⟨⟨cs1,k1⟩,r1,r2⟩:=Option.bind_eq_some_iff.1 hr
  refine wpList_plain (QsW hE hs hm hc h0 h1 e1 r1 Q).1 fun K hK=>?_
  have:=(QsW hE hs hm hc h0 h1 e1 r1 Q).2
  refine Oper.wp_mono (fun a' w'=>?_) this
  rintro ⟨us',p0,p1,p2,p3,p4,p5⟩
  exact hK _ _ (QqJ hE l p1 p2 p3 p4 p5 e2 r2 fun a w ⟨us'',q0,q⟩=>hQ a w ⟨us'',⟨Nat.le_trans p0.1 q0.1,fun e=>(q0.2 (by have:=p0.1;have:=q0.1;omega)).trans (p0.2 (by have:=p0.1;have:=q0.1;omega))⟩,q⟩)
theorem QdW (hE:EnvOk E P L):∀ (c:Code) {Q:Exit→Act→World→Prop} {s s':TS} {k k':Int} {us:List Value} {a:Act} {w:World} {cs cs':List V} {as:List Act1},
  SimV L nn s k us a→Mem L w0 arr0 T0 cs us bs w→cs.length=E.m→0≤k→k≤ZT→UT E nn c s=some (s',as)→Y2 as (cs,k)=some (cs',k') →
  (∀ a' w',(∃ us',(s.mv≤s'.mv∧(s'.mv=s.mv→us'=us))∧SimV L nn s' k' us' a'∧Mem L w0 arr0 T0 cs' us' bs w'∧cs'.length=E.m∧0≤k'∧k'≤ZT)→Q .normal a' w')→c.wp P Q a w
 | .region id ops false,Q,s,s',k,k',us,a,w,cs,cs',as,hs,hm,hc,h0,h1,h,hr,hQ=>wp_region_list (QqJ hE ops.toList hs hm hc h0 h1 h hr hQ)
 | .seq x y,Q,s,s',k,k',us,a,w,cs,cs',as,hs,hm,hc,h0,h1,h,hr,hQ=>by
  simp only [UT] at h
  split at h
  case h_2=>cases h
  rename_i s1 a1 e1
  split at h
  case h_2=>cases h
  rename_i s2 a2 e2
  cases h
  rw [Qcq] at hr
  obtain ⟨⟨cs1,k1⟩,r1,r2⟩:=Option.bind_eq_some_iff.1 hr
  refine wp_seq (QdW hE x hs hm hc h0 h1 e1 r1 fun a' w'=>?_)
  rintro ⟨us',p0,p1,p2,p3,p4,p5⟩
  exact QdW hE y p1 p2 p3 p4 p5 e2 r2 fun a w ⟨us'',q0,q⟩=>hQ a w ⟨us'',⟨Nat.le_trans p0.1 q0.1,fun e=>(q0.2 (by have:=p0.1;have:=q0.1;omega)).trans (p0.2 (by have:=p0.1;have:=q0.1;omega))⟩,q⟩
 | .region _ _ true,_,_,_,_,_,_,_,_,_,_,_,_,_,_,_,_,h,_,_=>by simp [UT] at h
 | .cond _ _ _,_,_,_,_,_,_,_,_,_,_,_,_,_,_,_,_,h,_,_=>by simp [UT] at h
 | .loop _,_,_,_,_,_,_,_,_,_,_,_,_,_,_,_,_,h,_,_=>by simp [UT] at h
 | .block _ _,_,_,_,_,_,_,_,_,_,_,_,_,_,_,_,_,h,_,_=>by simp [UT] at h
 | .exit _,_,_,_,_,_,_,_,_,_,_,_,_,_,_,_,_,h,_,_=>by simp [UT] at h
 | .skip,_,_,_,_,_,_,_,_,_,_,_,_,_,_,_,_,h,_,_=>by simp [UT] at h
 | .ret,_,_,_,_,_,_,_,_,_,_,_,_,_,_,_,_,h,_,_=>by simp [UT] at h
 | .rangeFunc _ _ _ _,_,_,_,_,_,_,_,_,_,_,_,_,_,_,_,_,h,_,_=>by simp [UT] at h
 | .scope _,_,_,_,_,_,_,_,_,_,_,_,_,_,_,_,_,h,_,_=>by simp [UT] at h
 | .label _,_,_,_,_,_,_,_,_,_,_,_,_,_,_,_,_,h,_,_=>by simp [UT] at h
 | .goto _,_,_,_,_,_,_,_,_,_,_,_,_,_,_,_,_,h,_,_=>by simp [UT] at h
 | .refuse _,_,_,_,_,_,_,_,_,_,_,_,_,_,_,_,_,h,_,_=>by simp [UT] at h
end
end Go.Ab
