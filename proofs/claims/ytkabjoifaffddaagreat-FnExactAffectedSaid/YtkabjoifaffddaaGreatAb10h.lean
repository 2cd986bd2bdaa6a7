import Derived.Test.YtkabjoifaffddaaGreatAb10g
namespace Go.Ab
variable {R:Type}
section
variable {P:Program} {base:Base} {w0:Orig} {dp nn:Nat} {st:St} {θ:Nat→Nat→Value} {M M':Me} {a:Act} {w w':World}
theorem Rel.dropDw (h:Rel P base w0 dp st θ M w) (ds:List Nat) (hsz:w.heap.size≤w'.heap.size) (hblk:∀ c,c∉M.blk ds→c<w.heap.size→w'.heap[c]? = w.heap[c]?) (hbelow:BelowB base w0.w w') :
  M.D.le ⟨fun q=>if q∈ds then none else M.D.δ q,M.D.N⟩∧Rel P base w0 dp (st.dropD ds) θ { M with D:=⟨fun q=>if q∈ds then none else M.D.δ q,M.D.N⟩ } w'∧(∀ c∈M.blk ds,Me.free { M with D:=⟨fun q=>if q∈ds then none else M.D.δ q,M.D.N⟩ } base c)∧∀ c,M.free base c→Me.free { M with D:=⟨fun q=>if q∈ds then none else M.D.δ q,M.D.N⟩ } base c:=by
 have hδ:∀ {q:Nat} {p:Value × List Nat},(if q∈ds then none else M.D.δ q)=some p→q∉ds∧M.D.δ q=some p:=by
  intro q p hq
  split at hq
  ·cases hq
  ·rename_i e;exact ⟨e,hq⟩
 have hle:M.D.le ⟨fun q=>if q∈ds then none else M.D.δ q,M.D.N⟩:=⟨Nat.le_refl _,fun q u' bs' _ hq=>⟨bs',(hδ hq).2⟩⟩
 have hapart:∀ {q u' bs' c},q∉ds→M.D.δ q=some (u',bs')→c∈bs'→c∉M.blk ds:=by
  intro q u' bs' c hq hd hc hm
  obtain ⟨q2,u2,b2,p1,p2,p3⟩:=QaA hm
  have:=h.dpi.sep q q2 _ _ _ _ c hd p2 hc p3
  subst this
  exact hq p1
 refine ⟨hle,?_,fun c hc=>?_,fun c hc=>?_⟩
 ·have hst:st.dropD ds={ st with dr:=(st.dropD ds).dr,nd:=st.nd }:=by rw [QnI]
  rw [hst]
  refine h.newD hle hsz (fun c hc hlt=>hblk c (fun hm=>hc ?_) hlt) hbelow ⟨h.dpi.N,fun q hq=>?_,fun q b hq=>?_,fun q u' bs' hq=>h.dpi.nodup q u' bs' (hδ hq).2,fun q u' bs' c hq hc=>?_,fun q q' u1 u2 b1 b2 c hq hq' hc hc'=>h.dpi.sep q q' _ _ _ _ c (hδ hq).2 (hδ hq').2 hc hc'⟩
  ·obtain ⟨q2,u2,b2,_,p2,p3⟩:=QaA hm
   exact ⟨q2,u2,b2,p2,p3⟩
  ·rw [Qjz]
   split
   ·rfl
   ·exact h.dpi.far q hq
  ·rw [Qjz] at hq
   split at hq
   ·cases hq
   ·rename_i e
    obtain ⟨u,bs,h1,h2⟩:=h.dpi.has q b hq
    exact ⟨u,bs,by simp only;rw [if_neg e];exact h1,h2.stays fun c hc=>hblk c (hapart e h1 hc) (h2.lt c hc)⟩
  ·obtain ⟨k1,k2,k3⟩:=h.dpi.blk q u' bs' c (hδ hq).2 hc
   exact ⟨k1,Nat.lt_of_lt_of_le k2 hsz,k3⟩
 ·obtain ⟨q,u',bs',p1,p2,p3⟩:=QaA hc
  obtain ⟨k1,_,k3,k4,k5⟩:=h.dpi.blk q u' bs' c p2 p3
  refine ⟨k1,k3,k4,fun k reg hk=>k5 k reg hk,?_⟩
  rintro ⟨q2,u2,b2,e1,e2⟩
  obtain ⟨n1,e1⟩:=hδ e1
  exact hapart n1 e1 e2 hc
 ·obtain ⟨k1,k2,k3,k4,k5⟩:=hc
  refine ⟨k1,k2,k3,k4,?_⟩
  rintro ⟨q2,u2,b2,e1,e2⟩
  exact k5 ⟨q2,u2,b2,(hδ e1).2,e2⟩
theorem Rel.dropDs (h:Rel P base w0 dp st θ M w) (ds:List Nat) :
  M.D.le ⟨fun q=>if q∈ds then none else M.D.δ q,M.D.N⟩∧Rel P base w0 dp (st.dropD ds) θ { M with D:=⟨fun q=>if q∈ds then none else M.D.δ q,M.D.N⟩ } w∧∀ c∈M.blk ds,Me.free { M with D:=⟨fun q=>if q∈ds then none else M.D.δ q,M.D.N⟩ } base c:=by
 obtain ⟨h1,h2,h3,_⟩:=h.dropDw (w':=w) ds (Nat.le_refl _) (fun _ _ _=>rfl) h.below
 exact ⟨h1,h2,h3⟩
theorem Qwo {w:World} {o:Obj}:(w.alloc o).heap.size=w.heap.size+1:=by unfold World.alloc;exact Array.size_push _
theorem QnK:∀ (ds:List Nat) (st:St),(st.dropD ds).nd=st.nd
 | ds,st=>by rw [QnI]
theorem Qsm (h:Rel P base w0 dp st θ M w) {t:TypeId} {len:Nat} {parts:List (Nat × V)} {vparts:Array (Nat × Value)} {K:V→Z9 R} {r:R} (hs:Qr1 P st t len parts K=some r) (hlen:parts.length=vparts.size)
  (hp:∀ (j:Nat) p q,parts[j]? = some p→vparts.toList[j]? = some q→p.1=q.1∧RelV M p.2 q.2):TurnsB P base w0 dp θ w K r (Instr.buildSlice t len vparts):=by
 unfold Qr1 at hs
 split at hs
 case h_2=>cases hs
 rename_i e he
 have ht:=Gm he
 split at hs
 case h_2=>cases hs
 rename_i ty hty
 split at hs
 case h_2=>cases hs
 rename_i v
 obtain ⟨h0,hs2⟩:=Qn hs
 clear hs
 simp only [Bool.and_eq_true] at h0
 obtain ⟨⟨⟨⟨⟨⟨⟨c1,c2⟩,c3⟩,c4⟩,c5⟩,c6⟩,c7⟩,c8⟩:=h0
 have c1:=Nat.eq_of_beq_eq_true c1
 subst c1
 have c2:=Nat.eq_of_beq_eq_true c2
 have c3:0<ty.cells:=Nat.le_of_ble_eq_true c3
 have c4:=Nat.le_of_ble_eq_true c4
 split at hs2
 case h_2=>cases hs2
 rename_i x hx
 obtain ⟨zc,hz⟩:=Option.isSome_iff_exists.1 c8
 obtain ⟨i,zv,hi,hzv,rfl,hone⟩:=Xs hz
 obtain ⟨_,_,_,_,i',hi',hsz⟩:=JP hty
 rw [hi] at hi'
 cases hi'
 obtain ⟨⟨q0,u⟩,hvp⟩:∃ q,vparts.toList=[q]:=List.length_eq_one_iff.1 (by rw [Array.length_toList,← hlen];rfl)
 obtain ⟨e0,hv⟩:=hp 0 _ _ rfl (by rw [hvp];rfl)
 simp only at e0 hv
 subst e0
 have hvp':vparts=#[(0,u)]:=by rw [← Array.toArray_toList (xs:=vparts),hvp]
 subst hvp'
 generalize hds:V.drs.drsL v.cellsOf=ds at *
 have hc:=Qsl h.dpi c5 hv
 have hul:u.cells.size=ty.cells:=by have:=hc.len;simp only [Array.length_toList] at this;omega
 have hnew0:=UK (w:=w) c7 hx (QcI h.dpi c5 hc)
 rw [hds] at hnew0
 obtain ⟨hle,hdrop,hfree⟩:=h.dropDs ds
 have hal:=hdrop.alloc (.cells u.cells e)
 have hblk:=heap_alloc_new w (.cells u.cells e)
 have hnew1:DeepD (w.alloc (.cells u.cells e)) ty x u.cells.toList (M.blk ds):=hnew0.stays fun c hc=>RowKit.Below.heap_alloc w _ c (hnew0.lt c hc)
 have hd:DeepD (w.alloc (.cells u.cells e)) (.list ty) [x] [.slice (some ⟨w.heap.size,0,none⟩) 1 1] (w.heap.size::M.blk ds):=by
  refine ⟨some ⟨w.heap.size,0,none⟩,1,rfl,Nat.le_refl _,by decide,(fun e=>by cases e),.inr ⟨w.heap.size,0,_,e,[M.blk ds],rfl,hblk,by simp,rfl,by rw [hul];omega,fun j y bj hy hbj=>?_⟩⟩
  cases j with
  | zero =>
   cases hy;cases hbj
   have:(u.cells.toList.drop (0+0*ty.cells)).take ty.cells=u.cells.toList:=by
    rw [Nat.zero_mul,List.drop_zero,List.take_of_length_le (by rw [Array.length_toList];omega)]
   rw [this]
   exact hnew1
  | succ j=>simp at hbj
 obtain ⟨D',hle',hr,hv',_⟩:=hal.addD hd (List.nodup_cons.2 ⟨fun hm=>Nat.lt_irrefl _ (hnew0.lt _ hm),h.dpi.blk_nodup (EZ.1 c6)⟩) (fun c hc=>by
  rcases List.mem_cons.1 hc with rfl | hc
  ·exact QjA hdrop (Nat.le_refl _)
  ·exact hfree c hc)
 rw [QnK] at hv'
 refine ⟨_,_,_,_,_,hs2,?_,hr,hv',rfl,(BelowN.refl _ _).alloc (Nat.le_refl _) _⟩
 have hrow:∀ cs,(newRow e cs).run P w=.ok ⟨w.heap.size,0,none⟩ (w.alloc (.cells cs e)):=fun cs=>by simp [newRow,newObj,Sem.run]
 unfold Instr.buildSlice
 simp only [Sem.run_bind,run_underlying ht,Result.andThen_ok,Zy hi,hsz,Nat.one_mul]
 rw [if_neg (by omega),if_neg (by omega)]
 simp only [Sem.run_bind,QcH hi hzv,Result.andThen_ok,Sem.run_pure]
 have hfill:Instr.fill (fun i=>some (i*ty.cells,ty.cells)) ((Array.range ty.cells).map (fun k=>zv.cells[k % zv.cells.size]!)) [(0,u)]=some u.cells:=by
  unfold Instr.fill
  simp only [hul]
  rw [if_neg (by simp)]
  unfold Instr.fill
  congr 1
  apply Array.ext'
  rw [Qco _ _ _ (by simp;omega)]
  simp [hul]
 rw [hfill]
 simp only [Sem.run_bind,hrow,Result.andThen_ok,Sem.run_pure]
def RowsD (w:World) (t:Ty) (xs:List t.den) (cs:List Value) (bss:List (List Nat)):Prop:=bss.length=xs.length∧cs.length=xs.length*t.cells∧∀ (i:Nat) (x:t.den) (bi:List Nat),xs[i]? = some x→bss[i]? = some bi→DeepD w t x ((cs.drop (i*t.cells)).take t.cells) bi
theorem RowsD.append {t:Ty} {xs ys:List t.den} {cs ds:List Value} {bss bss':List (List Nat)} (h:RowsD w t xs cs bss) (h':RowsD w t ys ds bss'):RowsD w t (xs++ys) (cs++ds) (bss++bss'):=by
 obtain ⟨a1,a2,a3⟩:=h
 obtain ⟨b1,b2,b3⟩:=h'
 refine ⟨by simp [a1,b1],by rw [List.length_append,List.length_append,a2,b2,Nat.add_mul],fun i x bi hx hb=>?_⟩
 rcases Nat.lt_or_ge i xs.length with hi | hi
 ·rw [List.getElem?_append_left hi] at hx
  rw [List.getElem?_append_left (by omega)] at hb
  have hif:i*t.cells+t.cells≤cs.length:=by rw [a2,← Nat.succ_mul];exact Nat.mul_le_mul_right _ hi
  rw [List.drop_append_of_le_length (by omega),List.take_append_of_le_length (by rw [List.length_drop];omega)]
  exact a3 i x bi hx hb
 ·rw [List.getElem?_append_right hi] at hx
  rw [List.getElem?_append_right (by omega),a1] at hb
  have e:i*t.cells=cs.length+(i - xs.length)*t.cells:=by rw [a2,← Nat.add_mul];congr 1;omega
  rw [e,List.drop_append,List.drop_of_length_le (by omega),List.nil_append,show cs.length+(i - xs.length)*t.cells - cs.length=(i - xs.length)*t.cells by omega]
  exact b3 _ x bi hx hb
theorem RowsD.stays {t:Ty} {xs:List t.den} {cs:List Value} {bss:List (List Nat)} (h:RowsD w t xs cs bss) (hb:∀ c∈bss.flatten,w'.heap[c]? = w.heap[c]?):RowsD w' t xs cs bss:=⟨h.1,h.2.1,fun i x bi hx hbi=>(h.2.2 i x bi hx hbi).stays fun c hc=>hb c (List.mem_flatten.2 ⟨bi,List.mem_of_getElem? hbi,hc⟩)⟩
theorem QyX {t:Ty} {xs:List t.den} {u:Value} {bs:List Nat} (h:DeepD w (.list t) xs [u] bs):∃ (a:Option Addr) (cap:Nat),u=.slice a xs.length cap∧xs.length≤cap∧cap≤maxLen∧(a=none→cap=0) ∧
  ((cap=0∧bs=[]∧xs=[])∨∃ (b o:Nat) (arr:Array Value) (T:TypeId) (bss:List (List Nat)),a=some ⟨b,o,none⟩∧w.heap[b]? = some (.cells arr T (0,0))∧bs=b::bss.flatten∧o+cap*t.cells≤arr.size∧RowsD w t xs ((arr.toList.drop o).take (xs.length*t.cells)) bss):=by
 obtain ⟨a,cap,h1,h2,h3,h4,h5⟩:=h
 simp only [List.cons.injEq,and_true] at h1
 refine ⟨a,cap,h1,h2,h3,h4,?_⟩
 rcases h5 with ⟨e1,e2⟩ | ⟨b,o,arr,T,bss,q1,q2,q3,q4,q5,q6⟩
 ·exact .inl ⟨e1,e2,List.eq_nil_of_length_eq_zero (by omega)⟩
 ·have hm:xs.length*t.cells≤cap*t.cells:=Nat.mul_le_mul_right _ h2
  refine .inr ⟨b,o,arr,T,bss,q1,q2,q3,q5,q4,by simp;omega,fun i x bi hx hb=>?_⟩
  have hi:i<xs.length:=(List.getElem?_eq_some_iff.1 hx).1
  have hif:i*t.cells+t.cells≤xs.length*t.cells:=by rw [← Nat.succ_mul];exact Nat.mul_le_mul_right _ hi
  have:=q6 i x bi hx hb
  rw [List.drop_take,List.drop_drop,List.take_take,Nat.min_eq_left (by omega)]
  exact this
theorem QnL {t:Ty} {xs:List t.den} {cs:List Value} {bss:List (List Nat)} {b o cap:Nat} {arr:Array Value} {T:TypeId} (h:RowsD w t xs cs bss) (hb:w.heap[b]? = some (.cells arr T (0,0))) (hcs:(arr.toList.drop o).take (xs.length*t.cells)=cs) (h1:xs.length≤cap) (h2:cap≤maxLen) (h3:o+cap*t.cells≤arr.size) :
  DeepD w (.list t) xs [.slice (some ⟨b,o,none⟩) xs.length cap] (b::bss.flatten):=by
 refine ⟨some ⟨b,o,none⟩,cap,rfl,h1,h2,(fun e=>by cases e),.inr ⟨b,o,arr,T,bss,rfl,hb,rfl,h.1,h3,fun i x bi hx hbi=>?_⟩⟩
 have hi:i<xs.length:=(List.getElem?_eq_some_iff.1 hx).1
 have hif:i*t.cells+t.cells≤xs.length*t.cells:=by rw [← Nat.succ_mul];exact Nat.mul_le_mul_right _ hi
 have:=h.2.2 i x bi hx hbi
 rw [← hcs,List.drop_take,List.drop_drop,List.take_take,Nat.min_eq_left (by omega)] at this
 exact this
theorem RowsD.nil {t:Ty}:RowsD w t [] [] []:=⟨rfl,by simp,fun i x bi hx=>by simp at hx⟩
theorem RowsD.one {t:Ty} {xs:List t.den} {cs:List Value} {bss:List (List Nat)} (h:RowsD w t xs cs bss):∀ u∈cs,u.oneCell'=true:=by
 intro u hu
 obtain ⟨j,hj⟩:=List.getElem?_of_mem hu
 have hjl:j<cs.length:=(List.getElem?_eq_some_iff.1 hj).1
 rw [h.2.1] at hjl
 have hpos:0<t.cells:=by
  rcases Nat.eq_zero_or_pos t.cells with e | e
  ·rw [e] at hjl;omega
  ·exact e
 have hi:j / t.cells<xs.length:=Nat.div_lt_of_lt_mul (by rw [Nat.mul_comm];exact hjl)
 have hd:=h.2.2 (j / t.cells) xs[j / t.cells] (bss[j / t.cells]'(by rw [h.1];exact hi)) (List.getElem?_eq_getElem hi) (List.getElem?_eq_getElem _)
 refine hd.one u (List.mem_of_getElem? (i:=j % t.cells) ?_)
 rw [List.getElem?_take_of_lt (Nat.mod_lt _ hpos),List.getElem?_drop,Nat.mul_comm,Nat.div_add_mod]
 exact hj
theorem Qvw {t ty e e':TypeId} {i:TypeInfo} (ht:P.underlying t=some (.slice e)) (hi:P.info? e=some i) {g o sLen sCap m:Nat} {cur:Array Value} (hg:w.heap[g]? = some (.cells cur e' (0,0))) {u:Value} {ds:List Value}
  (hlo:(Builtin.lenOf u).run P w=.ok m w) (hf:(Builtin.firstCells i.size m u).run P w=.ok ds.toArray w) (h1:∀ x∈ds,x.oneCell'=true) (hroom:sLen+m≤sCap) (hfit:o+sLen*i.size+ds.length≤cur.size) :
  (Builtin.append_ #[t,t] ty #[.slice (some ⟨g,o,none⟩) sLen sCap,u]).run P w=.ok (.slice (some ⟨g,o,none⟩) (sLen+m) sCap) (w.setRow g (cur.toList.take (o+sLen*i.size)++ds++cur.toList.drop (o+sLen*i.size+ds.length)).toArray):=by
 have hst:=run_storeCells_at P g (o+sLen*i.size) e' ds 0 cur w hg (by simpa using hfit) h1
 simp only [Nat.add_zero] at hst
 simp [Builtin.append_,run_underlying ht,sizeOf,typeInfo,hi,hlo,hroom,hf,Addr.add_lit,hst]
theorem Qup (h:Rel P base w0 dp st θ M w) {ty:Ty} {a:V} {va:Value} {ks:List Nat} {xs:List ty.den} (hd:QAL st ty a=some (ks,xs)) (hr:RelV M a va) :
  ∃ (ad:Option Addr) (cap:Nat),va=.slice ad xs.length cap∧xs.length≤cap∧cap≤maxLen∧(ad=none→cap=0)∧(∀ k∈ks,k<M.D.N) ∧
  ((cap=0∧M.blk ks=[]∧xs=[])∨∃ (b o:Nat) (arr:Array Value) (T:TypeId) (bss:List (List Nat)),ad=some ⟨b,o,none⟩∧w.heap[b]? = some (.cells arr T (0,0))∧M.blk ks=b::bss.flatten∧o+cap*ty.cells≤arr.size∧RowsD w ty xs ((arr.toList.drop o).take (xs.length*ty.cells)) bss):=by
 unfold QAL at hd
 split at hd
 ·cases hd
  cases hr
  exact ⟨none,0,rfl,Nat.le_refl _,Nat.zero_le _,fun _=>rfl,(fun k hk=>by cases hk),.inl ⟨rfl,rfl,rfl⟩⟩
 ·rename_i k
  split at hd
  case h_2=>cases hd
  rename_i ty' xs' hk
  split at hd
  case h_2=>cases hd
  rename_i xs'' hcast
  cases hd
  obtain ⟨rfl,rfl⟩:=castL?_eq hcast
  obtain ⟨u,bs,hδ,hdeep⟩:=h.dpi.has k _ hk
  obtain rfl:=hr.dr_inv.2 u bs hδ
  obtain ⟨ad,cap,q1,q2,q3,q4,q5⟩:=QyX hdeep
  have hb:M.blk [k]=bs:=by simp [Me.blk,hδ]
  refine ⟨ad,cap,q1,q2,q3,q4,fun q hq=>by rw [List.mem_singleton.1 hq];exact hr.dr_inv.1,?_⟩
  rw [hb]
  exact q5
 ·cases hd
set_option maxHeartbeats 1600000 in
theorem Qq9 (h:Rel P base w0 dp st θ M w) {t ty0:TypeId} {a b:V} {va vb:Value} {K:V→Z9 R} {r:R} (hs:Qpc P st t a b K=some r) (ha:RelV M a va) (hb:RelV M b vb) :
  Turns P base w0 dp θ w K r (Builtin.append_ #[t,t] ty0 #[va,vb]):=by
 unfold Qpc at hs
 split at hs
 case h_2=>cases hs
 rename_i e he
 have ht:=Gm he
 split at hs
 case h_2=>cases hs
 rename_i ty hty
 split at hs
 case h_2=>cases hs
 rename_i ks xs k' ys hda hdb
 obtain ⟨h0,hs2⟩:=Qn hs
 clear hs
 simp only [Bool.and_eq_true,decide_eq_true_eq] at h0
 obtain ⟨⟨⟨⟨⟨⟨c3,c4⟩,c5⟩,c6⟩,c7⟩,c1⟩,c2⟩:=h0
 have c4:0<ty.cells:=Nat.le_of_ble_eq_true c4
 have c7:0<ys.length:=Nat.le_of_ble_eq_true c7
 split at c6
 case h_2=>cases c6
 rename_i zc hz
 obtain ⟨i,zv,hi,hzv,hzc,_⟩:=Xs hz
 have hzs:zv.cells.size=ty.cells:=by have:=Nat.eq_of_beq_eq_true c6;rw [hzc] at this;simpa using this
 obtain ⟨_,_,_,_,i',hi',hsz⟩:=JP hty
 rw [hi] at hi'
 cases hi'
 have hby:P.bytesOf e=i.bytes:=by simp [Program.bytesOf,hi]
 rw [hby] at c1
 have c1:(xs.length+ys.length)*i.bytes≤140737488355328:=QfH (by rw [Int.natCast_add];exact c1)
 have c2:xs.length+ys.length≤140737488355328:=by rw [Xf] at c2;omega
 have hblkE:M.blk (k'::ks)=M.blk [k']++M.blk ks:=by simp [Me.blk]
 have hN:=h.dpi.blk_nodup (EZ.1 c3)
 rw [hblkE] at hN
 obtain ⟨adb,capb,rfl,b1,b2,b3,_,b5⟩:=Qup h hdb hb
 rcases b5 with ⟨_,_,b6⟩ | ⟨bb,ob,arrb,Tb,bssb,rfl,hhb,hbb,hfb,hrb⟩
 ·rw [b6] at c7;simp at c7
 obtain ⟨ada,cap,rfl,a1,a2,a3,_,a5⟩:=Qup h hda ha
 generalize hdsv:(arrb.toList.drop ob).take (ys.length*ty.cells)=ds at hrb
 have hcellB:∀ (w1:World),w1.heap=w.heap→∀ j v,ds[j]? = some v→w1.cell? ((⟨bb,ob,none⟩:Addr).add j)=some v:=by
  intro w1 hw1 j v hv
  rw [← hdsv,List.getElem?_take] at hv
  split at hv
  case isFalse=>cases hv
  rw [List.getElem?_drop] at hv
  rw [Addr.add_lit,V6 (by rw [hw1];exact hhb)]
  simpa using hv
 rw [hbb] at hN
 obtain ⟨n1,n2,n3⟩:=List.nodup_append.1 hN
 obtain ⟨n4,n5⟩:=List.nodup_cons.1 n1
 have hmemB:∀ c∈bssb.flatten,c∈M.blk (k'::ks):=fun c hc=>by rw [hblkE,hbb];simp [hc]
 have hmemA:∀ c∈M.blk ks,c∈M.blk (k'::ks):=fun c hc=>by rw [hblkE];exact List.mem_append_right _ hc
 have hlt:∀ c∈M.blk (k'::ks),Own base c∧c<w.heap.size:=fun c hc=>by
  obtain ⟨q,u',bs',_,p2,p3⟩:=QaA hc
  have:=h.dpi.blk q u' bs' c p2 p3
  exact ⟨this.1,this.2.1⟩
 have hlenE:(xs++ys).length=xs.length+ys.length:=List.length_append
 have inPlace:∀ (b o:Nat) (arr:Array Value) (T:TypeId) (bss:List (List Nat)),ada=some ⟨b,o,none⟩→w.heap[b]? = some (.cells arr T (0,0))→M.blk ks=b::bss.flatten→o+cap*ty.cells≤arr.size→RowsD w ty xs ((arr.toList.drop o).take (xs.length*ty.cells)) bss→xs.length+ys.length≤cap →
   Turns P base w0 dp θ w K r (Builtin.append_ #[t,t] ty0 #[.slice ada xs.length cap,.slice (some ⟨bb,ob,none⟩) ys.length capb]):=by
  rintro b o arr T bss rfl hh hbl hfit hrows hroom
  rw [hbl] at n2 n3 hmemA
  obtain ⟨m1,m2⟩:=List.nodup_cons.1 n2
  have hmul:xs.length*ty.cells+ys.length*ty.cells≤cap*ty.cells:=by rw [← Nat.add_mul];exact Nat.mul_le_mul_right _ hroom
  have hdl:=hrb.2.1
  have hrun:=Qvw (P:=P) (ty:=ty0) (u:=.slice (some ⟨bb,ob,none⟩) ys.length capb) ht hi hh rfl (run_firstCells_some (P:=P) w i.size ys.length _ _ _ ds (by rw [hsz];exact hdl) (hcellB w rfl)) hrb.one hroom (by rw [hsz,hdl,Nat.add_assoc];exact Nat.le_trans (Nat.add_le_add_left hmul o) hfit)
  rw [hsz] at hrun
  generalize harr:(arr.toList.take (o+xs.length*ty.cells)++ds++arr.toList.drop (o+xs.length*ty.cells+ds.length)).toArray=arr' at hrun
  have hal:arr.toList.length=arr.size:=Array.length_toList
  have harr':arr'.toList=arr.toList.take (o+xs.length*ty.cells)++ds++arr.toList.drop (o+xs.length*ty.cells+ds.length):=by rw [← harr]
  have hsize:arr'.size=arr.size:=by
   have:arr'.toList.length=arr.size:=by rw [harr'];simp;omega
   simpa using this
  have hblk:=Ub (w:=w) (cs:=arr') hh
  obtain ⟨d1,d2,d3,d4⟩:=h.dropDw (w':=w.setRow b arr') (k'::ks) (by rw [size_setRow];exact Nat.le_refl _) (fun c hc _=>by rw [hblk,if_neg (fun e=>hc (by rw [e];exact hmemA b (by simp)))]) (BelowB.setRow h.below (hlt b (hmemA b (by simp))).1 _)
  have r1:RowsD (w.setRow b arr') ty xs ((arr.toList.drop o).take (xs.length*ty.cells)) bss:=hrows.stays fun c hc=>by rw [hblk,if_neg (fun e=>m1 (by rw [← e];exact hc))]
  have r2:RowsD (w.setRow b arr') ty ys ds bssb:=hrb.stays fun c hc=>by rw [hblk,if_neg (fun e=>n3 c (List.mem_cons_of_mem _ hc) b (by simp) e)]
  have hall:=r1.append r2
  have hcs:(arr'.toList.drop o).take ((xs++ys).length*ty.cells)=(arr.toList.drop o).take (xs.length*ty.cells)++ds:=by
   rw [harr',List.append_assoc,List.drop_append_of_le_length (by simp;omega),List.drop_take,show o+xs.length*ty.cells - o=xs.length*ty.cells by omega,← List.append_assoc]
   refine List.take_left' ?_
   rw [List.length_append,hdl,hlenE,Nat.add_mul]
   simp
   omega
  have hdeep:=QnL hall (by rw [hblk,if_pos rfl]) hcs (by rw [hlenE];exact hroom) a2 (by rw [hsize];exact hfit)
  obtain ⟨D',hle',hr,hv',_⟩:=d2.addD hdeep (by
   rw [List.flatten_append]
   refine List.nodup_cons.2 ⟨fun hm=>?_,List.nodup_append.2 ⟨m2,n5,fun c hc c' hc' e=>n3 c' (List.mem_cons_of_mem _ hc') c (List.mem_cons_of_mem _ hc) e.symm⟩⟩
   rcases List.mem_append.1 hm with hm | hm
   ·exact m1 hm
   ·exact n3 b (List.mem_cons_of_mem _ hm) b (by simp) rfl) (fun c hc=>by
   rw [List.flatten_append] at hc
   rcases List.mem_cons.1 hc with rfl | hc
   ·exact d3 _ (hmemA _ (by simp))
   rcases List.mem_append.1 hc with hc | hc
   ·exact d3 _ (hmemA _ (List.mem_cons_of_mem _ hc))
   ·exact d3 _ (hmemB _ hc))
  rw [QnK] at hv'
  rw [hlenE] at hv'
  exact ⟨_,_,_,_,_,hs2,hrun,hr,hv',rfl⟩
 by_cases hroom:xs.length+ys.length≤cap
 ·rcases a5 with ⟨e1,_,_⟩ | ⟨b,o,arr,T,bss,q1,q2,q3,q4,q5⟩
  ·omega
  ·exact inPlace b o arr T bss q1 q2 q3 q4 q5 hroom
 clear inPlace
 obtain ⟨ca,bss,hA,hfo,hin,hnd⟩:∃ (ca:List Value) (bss:List (List Nat)),RowsD w ty xs ca bss∧(Builtin.firstCells i.size xs.length (.slice ada xs.length cap)).run P w.drew=.ok ca.toArray w.drew∧(∀ c∈bss.flatten,c∈M.blk ks)∧bss.flatten.Nodup:=by
  rcases a5 with ⟨e1,_,e3⟩ | ⟨b,o,arr,T,bss,q1,q2,q3,q4,q5⟩
  ·subst e3
   refine ⟨[],[],RowsD.nil,?_,by simp,by simp⟩
   cases ada with
   | none=>rfl
   | some ad=>exact run_firstCells_some (P:=P) w.drew i.size 0 ad 0 cap [] (by simp) (by simp)
  ·subst q1
   refine ⟨_,bss,q5,run_firstCells_some (P:=P) w.drew i.size xs.length _ _ _ _ (by rw [hsz];exact q5.2.1) (fun j v hv=>?_),fun c hc=>by rw [q3];exact List.mem_cons_of_mem _ hc,?_⟩
   ·rw [List.getElem?_take] at hv
    split at hv
    case isFalse=>cases hv
    rw [List.getElem?_drop] at hv
    rw [Addr.add_lit,V6 (by exact q2)]
    simpa using hv
   ·rw [q3] at n2
    exact (List.nodup_cons.1 n2).2
 have hdl:=hrb.2.1
 have hcl:=hA.2.1
 have hrun:=Qek (P:=P) (w:=w) (t:=t) (ty:=ty0) (a0:=ada) (u:=.slice (some ⟨bb,ob,none⟩) ys.length capb) ht hi hzv rfl rfl (run_firstCells_some (P:=P) w.drew i.size ys.length _ _ _ ds (by rw [hsz];exact hdl) (hcellB w.drew rfl)) hfo (Nat.lt_of_not_le hroom) (by omega) (growslice_fits (Nat.lt_of_not_le hroom) c1)
 have hge:=grownCap_ge w (xs.length+ys.length) cap e
 have hcm:grownCap w (xs.length+ys.length) cap e≤maxLen:=grownCap_le_maxLen w _ cap e (by unfold maxLen;omega)
 generalize grownCap w (xs.length+ys.length) cap e=cn at *
 generalize hobj:ca.toArray++ds.toArray++Builtin.zeroCells zv.cells (cn - (xs.length+ys.length))=arr' at hrun
 have hold:∀ c,c<w.heap.size→(w.drew.alloc (.cells arr' e)).heap[c]? = w.heap[c]?:=fun c hc=>RowKit.Below.heap_alloc w.drew _ c hc
 have hnewb:(w.drew.alloc (.cells arr' e)).heap[w.heap.size]? = some (.cells arr' e (0,0)):=heap_alloc_new w.drew _
 have hbel:BelowB base w0.w (w.drew.alloc (.cells arr' e)):=by
  have hbd:BelowB base w0.w w.drew:=h.below.drew
  exact hbd.alloc h.hb _
 obtain ⟨d1,d2,d3,d4⟩:=h.dropDw (w':=w.drew.alloc (.cells arr' e)) (k'::ks) (by rw [Qwo];exact Nat.le_succ _) (fun c _ hc=>hold c hc) hbel
 have r1:RowsD (w.drew.alloc (.cells arr' e)) ty xs ca bss:=hA.stays fun c hc=>hold c (hlt c (hmemA c (hin c hc))).2
 have r2:RowsD (w.drew.alloc (.cells arr' e)) ty ys ds bssb:=hrb.stays fun c hc=>hold c (hlt c (hmemB c hc)).2
 have hall:=r1.append r2
 have hcs:(arr'.toList.drop 0).take ((xs++ys).length*ty.cells)=ca++ds:=by
  rw [List.drop_zero,← hobj,Array.toList_append,Array.toList_append]
  refine List.take_left' ?_
  rw [List.length_append,hdl,hcl,hlenE,Nat.add_mul]
 have hsize:0+cn*ty.cells≤arr'.size:=by
  rw [← hobj]
  simp only [Array.size_append,List.size_toArray,size_zeroCells,hzs,hcl,hdl]
  rw [← Nat.add_mul,← Nat.add_mul,Nat.zero_add]
  exact Nat.mul_le_mul_right _ (by omega)
 have hdeep:=QnL hall hnewb hcs (by rw [hlenE];exact hge) hcm hsize
 obtain ⟨D',hle',hr,hv',_⟩:=d2.addD hdeep (by
  rw [List.flatten_append]
  refine List.nodup_cons.2 ⟨fun hm=>?_,List.nodup_append.2 ⟨hnd,n5,fun c hc c' hc' e=>n3 c' (List.mem_cons_of_mem _ hc') c (hin c hc) e.symm⟩⟩
  rcases List.mem_append.1 hm with hm | hm
  ·exact Nat.lt_irrefl _ (hlt _ (hmemA _ (hin _ hm))).2
  ·exact Nat.lt_irrefl _ (hlt _ (hmemB _ hm)).2) (fun c hc=>by
  rw [List.flatten_append] at hc
  rcases List.mem_cons.1 hc with rfl | hc
  ·exact d4 _ (QjA h (Nat.le_refl _))
  rcases List.mem_append.1 hc with hc | hc
  ·exact d3 _ (hmemA _ (hin _ hc))
  ·exact d3 _ (hmemB _ hc))
 rw [QnK] at hv'
 rw [hlenE] at hv'
 exact ⟨_,_,_,_,_,hs2,hrun,hr,hv',rfl⟩
end
end Go.Ab
