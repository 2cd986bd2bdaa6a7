import Derived.Test.YtkabjoifaffddaaGreatAb10d
namespace Go.Ab
variable {R:Type}
theorem EN {c:Nat} {L:List Nat}:∀ {bss:List (List Nat)} {i:Nat},c∈(bss.set i L).flatten→c∈bss.flatten∨c∈L
 | [],_,h=>by simp at h
 | x::bss,0,h=>by
  simp only [List.set_cons_zero,List.flatten_cons,List.mem_append] at h ⊢
  rcases h with h | h
  ·exact .inr h
  ·exact .inl (.inr h)
 | x::bss,i+1,h=>by
  simp only [List.set_cons_succ,List.flatten_cons,List.mem_append] at h ⊢
  rcases h with h | h
  ·exact .inl (.inl h)
  ·rcases EN h with h | h
   ·exact .inl (.inr h)
   ·exact .inr h
theorem QfI {L:List Nat} (hL:L.Nodup):∀ {bss:List (List Nat)} {i:Nat},bss.flatten.Nodup→(∀ c∈L,c∉bss.flatten)→(bss.set i L).flatten.Nodup
 | [],_,_,_=>by simp
 | x::bss,0,h,hd=>by
  simp only [List.set_cons_zero,List.flatten_cons] at h ⊢
  obtain ⟨_,h2,_⟩:=List.nodup_append.1 h
  refine List.nodup_append.2 ⟨hL,h2,fun a ha b hb e=>?_⟩
  subst e
  exact hd a ha (by simp only [List.flatten_cons,List.mem_append];exact .inr hb)
 | x::bss,i+1,h,hd=>by
  simp only [List.set_cons_succ,List.flatten_cons] at h ⊢
  obtain ⟨h1,h2,h3⟩:=List.nodup_append.1 h
  refine List.nodup_append.2 ⟨h1,QfI hL h2 (fun c hc hm=>hd c hc (by simp only [List.flatten_cons,List.mem_append];exact .inr hm)),fun a ha b hb e=>?_⟩
  subst e
  rcases EN hb with hb | hb
  ·exact h3 a ha a hb rfl
  ·exact hd a hb (by simp only [List.flatten_cons,List.mem_append];exact .inl ha)
section
variable {P:Program} {base:Base} {w0:Orig} {dp nn:Nat} {st:St} {θ:Nat→Nat→Value} {M M':Me} {a:Act} {w w':World}
theorem QnI:∀ (l:List Nat) (st:St),st.dropD l={ st with dr:=(st.dropD l).dr }
 | [],st=>rfl
 | k::l,st=>by rw [St.dropD];exact QnI l (st.setD k none)
theorem Qjz (q:Nat):∀ (l:List Nat) (st:St),(st.dropD l).dr q=if q∈l then none else st.dr q
 | [],st=>by simp [St.dropD]
 | k::l,st=>by
  rw [St.dropD,Qjz q l]
  simp only [St.setD]
  by_cases e:q=k
  ·subst e;rw [Ya];simp
  ·rw [Zi _ _ _ _ e];simp [e]
theorem DpInv.k_lt {dr:Nat→Option RBox} {nd k:Nat} {b:RBox} (h:DpInv base dr nd M w) (hk:dr k=some b):k<nd:=by
 rcases Nat.lt_or_ge k nd with h1 | h1
 ·exact h1
 ·rw [h.far k h1] at hk;cases hk
theorem QqC (h:Rel P base w0 dp st θ M w) {k:Nat} {ty:Ty} {xs:List ty.den} (hb:st.dr k=some ⟨ty,xs⟩) {i:Nat} (hin:i<xs.length) {ds:List Nat} (c8:Qgf (k::ds)=true) {b o cap:Nat} {bss:List (List Nat)} {arr:Array Value} {T:TypeId}
  (hδ:M.D.δ k=some (.slice (some ⟨b,o,none⟩) xs.length cap,b::bss.flatten)) (hh:w.heap[b]? = some (.cells arr T (0,0))) (hbl:bss.length=xs.length) (hfit0:o+cap*ty.cells≤arr.size) (q1:xs.length≤cap) (q2:cap≤maxLen)
  (q3:(some ⟨b,o,none⟩:Option Addr)=none→cap=0) (hrow:∀ (i:Nat) (x:ty.den) (bi:List Nat),xs[i]? = some x→bss[i]? = some bi→DeepD w ty x ((arr.toList.drop (o+i*ty.cells)).take ty.cells) bi)
  {us:List Value} (husl:us.length=ty.cells) {e:ty.den} (hnew0:DeepD w ty e us (M.blk ds)) {arr':Array Value} (harr':arr'.toList=arr.toList.take (o+i*ty.cells)++us++arr.toList.drop (o+i*ty.cells+ty.cells)) :
  ∃ M',Rel P base w0 dp ((st.dropD ds).setD k (some ⟨ty,xs.set i e⟩)) θ M' (w.setRow b arr'):=by
 obtain ⟨hk1,hk2⟩:=List.nodup_cons.1 (EZ.1 c8)
 have hfit:o+xs.length*ty.cells≤arr.size:=Nat.le_trans (Nat.add_le_add_left (Nat.mul_le_mul_right _ q1) _) hfit0
 have hif:i*ty.cells+ty.cells≤xs.length*ty.cells:=by rw [← Nat.succ_mul];exact Nat.mul_le_mul_right _ hin
 have hblk:=Ub (w:=w) (cs:=arr') hh
 have hal:arr.toList.length=arr.size:=Array.length_toList
 have hsize:arr'.size=arr.size:=by
  have:arr'.toList.length=arr.size:=by rw [harr'];simp;omega
  simpa using this
 have hmk:M.mine b:=⟨k,_,_,hδ,by simp⟩
 have hbase:=(h.dpi.blk k _ _ b hδ (by simp)).1
 have hnd:=h.dpi.nodup k _ _ hδ
 obtain ⟨hn1,hn2⟩:=List.nodup_cons.1 hnd
 have hdsep:∀ c∈M.blk ds,c∉b::bss.flatten:=by
  intro c hc hm
  obtain ⟨q,u',bs',p1,p2,p3⟩:=QaA hc
  have:=h.dpi.sep k q _ _ _ _ c hδ p2 hm p3
  subst this
  exact hk1 p1
 have hkn:=h.dpi.k_lt hb
 have hst:(st.dropD ds).setD k (some ⟨ty,xs.set i e⟩)={ st with dr:=Qq4 (st.dropD ds).dr k (some ⟨ty,xs.set i e⟩),nd:=st.nd }:=by
  rw [QnI];rfl
 rw [hst]
 refine ⟨_,h.newD (D':=⟨fun q=>if q=k then some (.slice (some ⟨b,o,none⟩) xs.length cap,b::(bss.set i (M.blk ds)).flatten) else if q∈ds then none else M.D.δ q,M.D.N⟩) ⟨Nat.le_refl _,fun q u' bs' _ hq=>?_⟩ (by simp) (fun c hc _=>by rw [hblk,if_neg (fun e=>hc (by rw [e];exact hmk))]) (BelowB.setRow h.below hbase _) ?_⟩
 ·simp only at hq
  split at hq
  ·rename_i e;subst e;cases hq;exact ⟨_,hδ⟩
  ·split at hq
   ·cases hq
   ·exact ⟨_,hq⟩
 ·have hδ':∀ {q:Nat} {p:Value × List Nat},(if q=k then some (Value.slice (some ⟨b,o,none⟩) xs.length cap,b::(bss.set i (M.blk ds)).flatten) else if q∈ds then none else M.D.δ q)=some p→(q=k∧p=(.slice (some ⟨b,o,none⟩) xs.length cap,b::(bss.set i (M.blk ds)).flatten))∨(q≠k∧q∉ds∧M.D.δ q=some p):=by
   intro q p hq
   split at hq
   ·rename_i e;exact .inl ⟨e,(Option.some.inj hq).symm⟩
   ·rename_i e
    split at hq
    ·cases hq
    ·rename_i e2;exact .inr ⟨e,e2,hq⟩
  have hnewmem:∀ c,c∈b::(bss.set i (M.blk ds)).flatten→c∈b::bss.flatten∨c∈M.blk ds:=by
   intro c hc
   rcases List.mem_cons.1 hc with rfl | hc
   ·exact .inl (by simp)
   ·rcases EN hc with hc | hc
    ·exact .inl (List.mem_cons_of_mem _ hc)
    ·exact .inr hc
  have hstay:∀ {t':Ty} {x:t'.den} {cs:List Value} {bi:List Nat},DeepD w t' x cs bi→b∉bi→DeepD (w.setRow b arr') t' x cs bi:=fun hd hb=>hd.stays fun c hc=>by rw [hblk,if_neg (fun e=>hb (by rw [← e];exact hc))]
  refine ⟨h.dpi.N,fun q hq=>?_,fun q b' hq=>?_,fun q u' bs' hq=>?_,fun q u' bs' c hq hc=>?_,fun q q' u1 u2 b1 b2 c hq hq' hc hc'=>?_⟩
  ·rw [Zi _ _ _ _ (by omega),Qjz]
   split
   ·rfl
   ·exact h.dpi.far q hq
  ·by_cases e1:q=k
   ·subst e1
    rw [Ya] at hq
    cases hq
    refine ⟨.slice (some ⟨b,o,none⟩) xs.length cap,b::(bss.set i (M.blk ds)).flatten,if_pos rfl,some ⟨b,o,none⟩,cap,by rw [List.length_set],by rw [List.length_set];exact q1,q2,q3,.inr ⟨b,o,arr',T,bss.set i (M.blk ds),rfl,by rw [hblk,if_pos rfl],rfl,by rw [List.length_set,List.length_set];exact hbl,by rw [hsize];exact hfit0,fun j x bj hx hbj=>?_⟩⟩
    have hjl:j<xs.length:=by have:=(List.getElem?_eq_some_iff.1 hx).1;simpa using this
    have hjf:j*ty.cells+ty.cells≤xs.length*ty.cells:=by rw [← Nat.succ_mul];exact Nat.mul_le_mul_right _ hjl
    by_cases ej:j=i
    ·have ej2:i=j:=ej.symm
     subst ej2
     rw [List.getElem?_set_self (by omega)] at hbj
     rw [show (xs.set i e)[i]? = some e from List.getElem?_set_self hjl] at hx
     cases hbj;cases hx
     refine hstay ?_ (fun hm=>hdsep b hm (by simp))
     have:(arr'.toList.drop (o+i*ty.cells)).take ty.cells=us:=by
      rw [harr',List.append_assoc,List.drop_append,List.drop_of_length_le (by simp;omega),List.length_take,Nat.min_eq_left (by omega),Nat.sub_self,List.drop_zero,List.nil_append,List.take_append,← husl,List.take_length,Nat.sub_self,List.take_zero,List.append_nil]
     rw [this]
     exact hnew0
    ·rw [List.getElem?_set_ne (fun e=>ej e.symm)] at hbj
     rw [show (xs.set i e)[j]? = xs[j]? from List.getElem?_set_ne (fun e=>ej e.symm)] at hx
     refine hstay ?_ (fun hm=>hn1 (List.mem_flatten.2 ⟨bj,List.mem_of_getElem? hbj,hm⟩))
     have hsame:(arr'.toList.drop (o+j*ty.cells)).take ty.cells=(arr.toList.drop (o+j*ty.cells)).take ty.cells:=by
      rw [harr']
      apply List.ext_getElem?
      intro n
      rw [List.getElem?_take,List.getElem?_take]
      split
      ·rename_i hn
       rw [List.getElem?_drop,List.getElem?_drop]
       rcases Nat.lt_or_gt_of_ne ej with h1 | h1
       ·have:j*ty.cells+ty.cells≤i*ty.cells:=by rw [← Nat.succ_mul];exact Nat.mul_le_mul_right _ h1
        rw [List.append_assoc,List.getElem?_append_left (by simp;omega),List.getElem?_take,if_pos (by omega)]
       ·have:i*ty.cells+ty.cells≤j*ty.cells:=by rw [← Nat.succ_mul];exact Nat.mul_le_mul_right _ h1
        rw [List.getElem?_append_right (by simp;omega),List.getElem?_drop]
        congr 1
        simp
        omega
      ·rfl
     rw [hsame]
     exact hrow j x bj hx hbj
   ·rw [Zi _ _ _ _ e1,Qjz] at hq
    split at hq
    ·cases hq
    ·rename_i e2
     obtain ⟨u',bs',p1,p2⟩:=h.dpi.has q b' hq
     refine ⟨u',bs',by simp only;rw [if_neg e1,if_neg e2];exact p1,hstay p2 fun hm=>?_⟩
     exact e1 (h.dpi.sep q k _ _ _ _ b p1 hδ hm (by simp))
  ·rcases hδ' hq with ⟨_,e⟩ | ⟨_,_,e⟩
   ·cases e
    refine List.nodup_cons.2 ⟨fun hm=>?_,QfI (h.dpi.blk_nodup hk2) hn2 (fun c hc hm=>hdsep c hc (List.mem_cons_of_mem _ hm))⟩
    rcases EN hm with hm | hm
    ·exact hn1 hm
    ·exact hdsep b hm (by simp)
   ·exact h.dpi.nodup q u' bs' e
  ·have key:M.mine c:=by
    rcases hδ' hq with ⟨_,e⟩ | ⟨_,_,e⟩
    ·cases e
     rcases hnewmem c hc with hc | hc
     ·exact ⟨k,_,_,hδ,hc⟩
     ·exact Qjy hc
    ·exact ⟨q,u',bs',e,hc⟩
   obtain ⟨k',u2,bs2,p1,p2⟩:=key
   obtain ⟨r1,r2,r3,r4,r5⟩:=h.dpi.blk k' u2 bs2 c p1 p2
   exact ⟨r1,by simpa using r2,r3,r4,r5⟩
  ·have own:∀ {q:Nat} {u':Value} {bs':List Nat},q≠k→q∉ds→M.D.δ q=some (u',bs')→c∈bs'→c∈b::(bss.set i (M.blk ds)).flatten→False:=by
    intro q u' bs' e1 e2 hq hc hm
    rcases hnewmem c hm with hm | hm
    ·exact e1 (h.dpi.sep q k _ _ _ _ c hq hδ hc hm)
    ·obtain ⟨q',u2,b3,p1,p2,p3⟩:=QaA hm
     have:=h.dpi.sep q q' _ _ _ _ c hq p2 hc p3
     subst this
     exact e2 p1
   rcases hδ' hq with ⟨e1,e⟩ | ⟨e1,e2,e⟩<;>rcases hδ' hq' with ⟨e1',e'⟩ | ⟨e1',e2',e'⟩
   ·exact e1.trans e1'.symm
   ·cases e;exact (own e1' e2' e' hc' hc).elim
   ·cases e';exact (own e1 e2 e hc hc').elim
   ·exact h.dpi.sep q q' _ _ _ _ c e e' hc hc'
theorem QtS (h:Rel P base w0 dp st θ M w) {t:TypeId} {k sz off:Nat} {i:Int} {v:V} {vp u:Value} {K:Z9 R} {r:R} (hs:Qu7 P st t k sz i off v K=some r) (hp:RelV M (.dq k sz i off) vp) (hv:RelV M v u) :
  ∃ st' w' M',K st'=some r∧(Instr.storeAt t vp u).run P w=.ok () w'∧Rel P base w0 dp st' θ M' w':=by
 unfold Qu7 at hs
 split at hs
 case h_2=>cases hs
 rename_i ty xs hb
 obtain ⟨h0,hs2⟩:=Qn hs
 clear hs
 simp only [Bool.and_eq_true] at h0
 obtain ⟨⟨⟨⟨⟨⟨⟨⟨c1,c2⟩,c3⟩,c4⟩,c5⟩,c6⟩,c7⟩,c8⟩,c9⟩:=h0
 have c1:sz=ty.cells:=Nat.eq_of_beq_eq_true c1
 have c2:off=0:=Nat.eq_of_beq_eq_true c2
 have c4:v.cellsOf.length=ty.cells:=Nat.eq_of_beq_eq_true c4
 have c5:P.cellsOf t=ty.cells:=Nat.eq_of_beq_eq_true c5
 subst c1;subst c2
 split at hs2
 case h_2=>cases hs2
 rename_i e he
 generalize hds:V.drs.drsL v.cellsOf=ds at *
 obtain ⟨u0,bs0,hδ,a0,cap,hu0,q1,q2,q3,q4⟩:=h.dpi.has k _ hb
 simp only [List.cons.injEq,and_true] at hu0
 simp only at q1 q4
 have hix:=Vr.1 c3
 have hin:i.toNat<xs.length:=by omega
 rcases q4 with ⟨q4,_⟩ | ⟨b,o,arr,T,bss,rfl,hh,hbs,hbl,hfit0,hrow⟩
 ·omega
 have hfit:o+xs.length*ty.cells≤arr.size:=Nat.le_trans (Nat.add_le_add_left (Nat.mul_le_mul_right _ q1) _) hfit0
 subst hu0
 subst hbs
 obtain rfl:=hp.dq_inv.2 b o _ _ _ hδ
 have hc:=Qsl h.dpi c7 hv
 have hul:u.cells.size=ty.cells:=by have:=hc.len;simp only [Array.length_toList] at this;omega
 have hnew0:=UK (w:=w) c9 he (QcI h.dpi c7 hc)
 rw [hds] at hnew0
 have hif:i.toNat*ty.cells+ty.cells≤xs.length*ty.cells:=by rw [← Nat.succ_mul];exact Nat.mul_le_mul_right _ hin
 have hrun:=Ul (P:=P) (t:=t) hh c6 (by rw [hul,c5]) (o:=o+i.toNat*ty.cells+0) (by omega) hc.one
 generalize hcells:u.cells.toList=us at *
 have husl:us.length=ty.cells:=by rw [← hcells];simpa using hul
 generalize harr:(arr.toList.take (o+i.toNat*ty.cells+0)++us++arr.toList.drop (o+i.toNat*ty.cells+0+u.cells.size)).toArray=arr' at hrun
 have hal:arr.toList.length=arr.size:=Array.length_toList
 obtain ⟨M',hM⟩:=QqC h hb hin c8 hδ hh hbl hfit0 q1 q2 q3 hrow husl hnew0 (arr':=arr') (by rw [← harr,hul];simp)
 exact ⟨_,_,M',hs2,hrun,hM⟩
theorem QtT (h:Rel P base w0 dp st θ M w) {t:TypeId} {k sz off:Nat} {i:Int} {v:V} {vp u:Value} {K:Z9 R} {r:R} (hfl:Qyf st k=true) (hs:Qu8 P st t k sz i off v K=some r) (hp:RelV M (.dq k sz i off) vp) (hv:RelV M v u) :
  ∃ st' w' M',K st'=some r∧(Instr.storeAt t vp u).run P w=.ok () w'∧Rel P base w0 dp st' θ M' w':=by
 unfold Qu8 at hs
 split at hs
 case h_2=>cases hs
 rename_i ty xs hb
 have hfl:ty.keyFlat=true:=by unfold Qyf at hfl;rw [hb] at hfl;exact hfl
 obtain ⟨h0,hs2⟩:=Qn hs
 clear hs
 simp only [Bool.and_eq_true] at h0
 obtain ⟨⟨⟨⟨⟨c1,c3⟩,c4⟩,c6⟩,c5⟩,c7⟩:=h0
 have c1:sz=ty.cells:=Nat.eq_of_beq_eq_true c1
 have c4:=Nat.eq_of_beq_eq_true c4
 have c5:=Nat.le_of_ble_eq_true c5
 subst c1
 split at hs2
 case h_2=>cases hs2
 rename_i e he
 obtain ⟨u0,bs0,hδ,a0,cap,hu0,q1,q2,q3,q4⟩:=h.dpi.has k _ hb
 simp only [List.cons.injEq,and_true] at hu0
 simp only at q1 q4
 have hix:=Vr.1 c3
 have hin:i.toNat<xs.length:=by omega
 rcases q4 with ⟨q4,_⟩ | ⟨b,o,arr,T,bss,rfl,hh,hbs,hbl,hfit0,hrow⟩
 ·omega
 have hfit:o+xs.length*ty.cells≤arr.size:=Nat.le_trans (Nat.add_le_add_left (Nat.mul_le_mul_right _ q1) _) hfit0
 have hif:i.toNat*ty.cells+ty.cells≤xs.length*ty.cells:=by rw [← Nat.succ_mul];exact Nat.mul_le_mul_right _ hin
 subst hu0
 subst hbs
 obtain rfl:=hp.dq_inv.2 b o _ _ _ hδ
 have hc:=Ua hv c7
 have hul:u.cells.size=v.cellsOf.length:=by rw [hc.len];simp
 have hrun:=Ul (P:=P) (t:=t) hh c6 (by rw [hul,c4]) (o:=o+i.toNat*ty.cells+off) (by omega) hc.one
 have hlt:i.toNat<bss.length:=by omega
 have hold:=(WQ (F:=M.F) hfl (hrow _ _ _ (Qqy (d:=ty.dflt) c3) (List.getElem?_eq_getElem hlt))).1
 have hex:=Yf (M:=M) hold
 have hsp:=Uk hex hc off
 have hnew:=V5 he hsp
 have hlen:=hnew.len
 have hal:arr.toList.length=arr.size:=Array.length_toList
 obtain ⟨M',hM⟩:=QqC h hb hin (ds:=[]) rfl hδ hh hbl hfit0 q1 q2 q3 hrow hlen (QdS hfl hnew) (arr':=(arr.toList.take (o+i.toNat*ty.cells+off)++u.cells.toList++arr.toList.drop (o+i.toNat*ty.cells+off+u.cells.size)).toArray) (by
  simp only [List.toList_toArray]
  generalize hus:u.cells.toList=us at *
  have hus':us.length=u.cells.size:=by rw [← hus];simp
  rw [← hul,← hus'] at c5
  rw [← hus']
  generalize hA:o+i.toNat*ty.cells=A at *
  have hAl:A+ty.cells≤arr.toList.length:=by omega
  apply List.ext_getElem?
  intro n
  rcases Nat.lt_or_ge n A with h1 | h1
  ·rw [List.append_assoc,List.append_assoc,List.getElem?_append_left (by simp;omega),List.getElem?_append_left (by simp;omega),List.getElem?_take,List.getElem?_take,if_pos (by omega),if_pos h1]
  ·rcases Nat.lt_or_ge n (A+ty.cells) with h2 | h2
   ·rw [List.append_assoc (List.take A _),List.getElem?_append_right (l₁:=List.take A _) (by simp;omega),List.length_take,Nat.min_eq_left (by omega),List.getElem?_append_left (l₁:=_++_++_) (by rw [hlen];omega)]
    rcases Nat.lt_or_ge n (A+off) with h3 | h3
    ·rw [List.append_assoc,List.append_assoc,List.getElem?_append_left (by simp;omega),List.getElem?_append_left (by simp;omega),List.getElem?_take,List.getElem?_take,if_pos h3,if_pos (by omega),List.getElem?_take,if_pos (by omega),List.getElem?_drop]
     congr 1;omega
    ·rcases Nat.lt_or_ge n (A+off+us.length) with h4 | h4
     ·rw [List.append_assoc,List.append_assoc,List.getElem?_append_right (l₁:=List.take _ _) (by simp;omega),List.getElem?_append_left (by simp;omega),List.getElem?_append_right (l₁:=List.take _ _) (by simp;omega),List.getElem?_append_left (by simp;omega)]
      congr 1;simp;omega
     ·rw [List.getElem?_append_right (by simp;omega),List.getElem?_append_right (by simp;omega),List.getElem?_drop,List.getElem?_drop,List.getElem?_take,if_pos (by simp;omega),List.getElem?_drop]
      congr 1;simp;omega
   ·rw [List.getElem?_append_right (by simp;omega),List.getElem?_append_right (l₁:=_++_) (by simp at hlen ⊢;omega),List.getElem?_drop,List.getElem?_drop]
    congr 1;simp at hlen ⊢;omega)
 exact ⟨_,_,M',hs2,hrun,hM⟩
theorem Qvu (h:Rel P base w0 dp st θ M w) {t:TypeId} {p v:V} {vp u:Value} {K:Z9 R} {r:R} (hs:Qxi P st t p v K=some r) (hp:RelV M p vp) (hpl:p.le dp=true) (hv:RelV M v u) :
  ∃ st' w' M',K st'=some r∧(Instr.storeAt t vp u).run P w=.ok () w'∧Rel P base w0 dp st' θ M' w':=by
 unfold Qxi at hs
 split at hs
 ·cases hc:Qyf st _&&!(Nat.beq _ 0&&Nat.beq _ v.cellsOf.length) with
  | true =>
   rw [hc,cond_true] at hs
   simp only [Bool.and_eq_true] at hc
   exact QtT h hc.1 hs hp hv
  | false=>rw [hc,cond_false] at hs;exact QtS h hs hp hv
 ·obtain ⟨st',w',h1,h2,h3⟩:=Qvq h hs hp hpl hv
  exact ⟨st',w',M,h1,h2,h3⟩
end
end Go.Ab
