import Derived.Test.YtkabjoifaffddaaGreatAb10h
namespace Go.Ab
variable {R:Type}
section
variable {P:Program} {base:Base} {w0:Orig} {dp nn:Nat} {st:St} {θ:Nat→Nat→Value} {M M':Me} {a:Act} {w w':World}
theorem QtV (h:Rel P base w0 dp st θ M w) {t:TypeId} {k:Nat} {vx:Value} {lo hi:Option V} {vlo vhi:Option Value} {K:V→Option R} {r:R} (hs:QkT P st t k lo hi K=some r) (hx:RelV M (.dr k) vx)
  (hl:∀ x,lo=some x→∃ v,vlo=some v∧RelV M x v) (hl0:lo=none→vlo=none) (hh:∀ x,hi=some x→∃ v,vhi=some v∧RelV M x v) (hh0:hi=none→vhi=none) :
  GivesFlat P M w K r (Instr.sliceAt t vx vlo vhi none):=by
 unfold QkT at hs
 split at hs
 case h_2=>cases hs
 rename_i e ht
 split at hs
 case h_2=>cases hs
 rename_i ty xs hk
 obtain ⟨h0,hs⟩:=Qn hs
 simp only [Bool.and_eq_true] at h0
 obtain ⟨i,hi'⟩:=Option.isSome_iff_exists.1 h0.2
 have hsz:i.size=ty.cells:=by rw [← Nat.eq_of_beq_eq_true h0.1];simp [Program.cellsOf,hi']
 have hn:hi=none→∀ l h':Int,Qgz xs.length lo hi (fun l h=>if hi=none→h=(xs.length:Int) then K (.dvw k ty.cells l (bif hi.isNone then none else some h)) else none)=Qgz xs.length lo hi (fun l h=>K (.dvw k ty.cells l (bif hi.isNone then none else some h))):=by
  intro e l h'
  subst e
  unfold Qgz
  split<;>first | contradiction | simp
 have hG:Qgz xs.length lo hi (fun l h=>if hi=none→h=(xs.length:Int) then K (.dvw k ty.cells l (bif hi.isNone then none else some h)) else none)=some r:=by
  by_cases e:hi=none
  ·rw [hn e 0 0];exact hs
  ·rw [show (fun (l h:Int)=>if hi=none→h=(xs.length:Int) then K (.dvw k ty.cells l (bif hi.isNone then none else some h)) else none)=(fun l h=>K (.dvw k ty.cells l (bif hi.isNone then none else some h))) from funext fun l=>funext fun h=>if_pos fun e'=>(e e').elim]
   exact hs
 obtain ⟨l,h',hk1,k0,k1,k2,kb⟩:=Qmv (P:=P) hG hl hl0 hh hh0
 split at hk1
 case isFalse=>cases hk1
 rename_i hall
 obtain ⟨u,bs,hδ,ad,cap,hu,q1,_,_,_⟩:=h.dpi.has k _ hk
 simp only [List.cons.injEq,and_true] at hu
 subst hu
 obtain rfl:=hx.dr_inv.2 _ _ hδ
 have hb:=kb true cap q1
 refine ⟨_,.slice (if cap=l.toNat then ad else ad.map (·.add (l.toNat*ty.cells))) (h'.toNat - l.toNat) (cap - l.toNat),hk1,?_,.dvw _ _ _ _ _ hx.dr_inv.1 rfl fun ad' n' c' bs' hδ'=>?_,fun _=>rfl⟩
 ·intro w
  simp [Instr.sliceAt,Instr.slice,run_underlying ht,hb,Zy hi',hsz]
 ·rw [hδ] at hδ'
  simp only [Option.some.injEq,Prod.mk.injEq,Value.slice.injEq] at hδ'
  obtain ⟨⟨rfl,rfl,rfl⟩,_⟩:=hδ'
  refine ⟨by omega,fun h hh=>?_,?_⟩
  ·cases hi with
   | none=>cases hh
   | some _=>cases hh;omega
  ·cases hi with
   | none =>
    have:=hall rfl
    subst this
    simp
   | some _=>rfl
theorem Qvx (h:Rel P base w0 dp st θ M w) {t:TypeId} {x:V} {vx:Value} {lo hi:Option V} {vlo vhi:Option Value} {K:V→Option R} {r:R} (hs:QhC P st t x lo hi K=some r) (hx:RelV M x vx)
  (hl:∀ x,lo=some x→∃ v,vlo=some v∧RelV M x v) (hl0:lo=none→vlo=none) (hh:∀ x,hi=some x→∃ v,vhi=some v∧RelV M x v) (hh0:hi=none→vhi=none) :
  GivesFlat P M w K r (Instr.sliceAt t vx vlo vhi none):=by
 unfold QhC at hs
 split at hs
 ·exact QtV h hs hx hl hl0 hh hh0
 ·exact Qvn hs hx hl hl0 hh hh0
theorem Qwp (h:Rel P base w0 dp st θ M w) {v:V} {u:Value} {K:V→Z9 R} {r:R} (hk:Qqu v st K=some r) (hr:RelV M v u) (hle:v.le dp=true) :
  ∃ v' st' M',K v' st'=some r∧Rel P base w0 dp st' θ M' w∧RelV M' v' u∧v'.le dp=true:=by
 unfold Qqu at hk
 split at hk
 case h_2=>exact ⟨_,_,M,hk,h,hr,hle⟩
 rename_i k sz lo hh
 split at hk
 case h_2=>cases hk
 rename_i ty xs hb
 obtain ⟨h0,hk⟩:=Qn hk
 simp only [Bool.and_eq_true] at h0
 have hlo:lo.toNat=0:=Nat.eq_of_beq_eq_true h0.1
 obtain ⟨u0,bs,hδ,ad,cap,hu,q1,q2,q3,q4⟩:=h.dpi.has k _ hb
 simp only [List.cons.injEq,and_true] at hu
 subst hu
 simp only at q1 q4
 obtain ⟨_,p2,rfl⟩:=hr.dvw_inv.2.2 _ _ _ _ hδ
 have p2:=(p2 _ rfl).2
 have hblk:M.blk [k]=bs:=by simp [Me.blk,hδ]
 obtain ⟨d1,d2,d3,d4⟩:=h.dropDw (w':=w) [k] (Nat.le_refl _) (fun _ _ _=>rfl) h.below
 rw [hblk] at d3
 have hnd:=h.dpi.nodup k _ _ hδ
 have hval:Value.slice (if cap=lo.toNat then ad else ad.map (·.add (lo.toNat*sz))) ((some hh).elim (List.length xs) Int.toNat - lo.toNat) (cap - lo.toNat)=.slice ad hh.toNat cap:=by
  rw [hlo,Nat.zero_mul]
  simp only [Option.elim_some,Nat.sub_zero]
  split
  ·rfl
  ·cases ad with
   | none=>rfl
   | some ad=>rfl
 rw [hval]
 have hlen:(xs.take hh.toNat).length=hh.toNat:=by rw [List.length_take];exact Nat.min_eq_left p2
 obtain ⟨bs',hd,hnd',hsub⟩:∃ bs',DeepD w (.list ty) (xs.take hh.toNat) [.slice ad hh.toNat cap] bs'∧bs'.Nodup∧∀ c∈bs',c∈bs:=by
  rcases q4 with ⟨e1,e2⟩ | ⟨b,o,arr,T,bss,e1,e2,e3,e4,e5,e6⟩
  ·exact ⟨[],⟨ad,cap,by rw [hlen],by rw [hlen];exact Nat.le_trans p2 q1,q2,q3,.inl ⟨by omega,rfl⟩⟩,List.nodup_nil,fun c hc=>(by cases hc)⟩
  ·subst e3
   have hsl:(bss.take hh.toNat).flatten.Sublist bss.flatten:=by
    conv=>rhs;rw [← List.take_append_drop hh.toNat bss]
    rw [List.flatten_append]
    exact List.sublist_append_left _ _
   obtain ⟨n1,n2⟩:=List.nodup_cons.1 hnd
   refine ⟨b::(bss.take hh.toNat).flatten,⟨ad,cap,by rw [hlen],by rw [hlen];exact Nat.le_trans p2 q1,q2,q3,.inr ⟨b,o,arr,T,bss.take hh.toNat,e1,e2,rfl,by rw [hlen,List.length_take,e4];exact Nat.min_eq_left p2,e5,fun i x bi hx hi=>?_⟩⟩,List.nodup_cons.2 ⟨fun hm=>n1 (hsl.subset hm),n2.sublist hsl⟩,fun c hc=>?_⟩
   ·rw [show (xs.take hh.toNat)[i]? = if i<hh.toNat then xs[i]? else none from List.getElem?_take] at hx
    rw [List.getElem?_take] at hi
    split at hx
    ·rename_i hi'
     rw [if_pos hi'] at hi
     exact e6 i x bi hx hi
    ·cases hx
   ·rcases List.mem_cons.1 hc with rfl | hc
    ·exact List.mem_cons_self
    ·exact List.mem_cons_of_mem _ (hsl.subset hc)
 obtain ⟨D',hle',hR,hv',_⟩:=d2.addD hd hnd' (fun c hc=>d3 c (hsub c hc))
 rw [QnK] at hv'
 exact ⟨_,_,_,hk,hR,hv',rfl⟩
theorem Qwq (h:Rel P base w0 dp st θ M w) {k:Nat} {ty:Ty} {xs:List ty.den} (hb:st.dr k=some ⟨ty,xs⟩) {b o cap:Nat} {bss:List (List Nat)} {arr:Array Value} {T:TypeId}
  (hδ:M.D.δ k=some (.slice (some ⟨b,o,none⟩) xs.length cap,b::bss.flatten)) (hh:w.heap[b]? = some (.cells arr T (0,0))) (hbl:bss.length=xs.length) (hfit0:o+cap*ty.cells≤arr.size) (q1:xs.length≤cap) (q2:cap≤maxLen)
  {xs':List ty.den} (hlen':xs'.length=xs.length) {arr':Array Value} (hsize:arr'.size=arr.size)
  (hrow:∀ (i:Nat) (x:ty.den) (bi:List Nat),xs'[i]? = some x→bss[i]? = some bi→DeepD (w.setRow b arr') ty x ((arr'.toList.drop (o+i*ty.cells)).take ty.cells) bi) :
  Rel P base w0 dp (st.setD k (some ⟨ty,xs'⟩)) θ M (w.setRow b arr'):=by
 have hblk:=Ub (w:=w) (cs:=arr') hh
 have hmk:M.mine b:=⟨k,_,_,hδ,by simp⟩
 have hbase:=(h.dpi.blk k _ _ b hδ (by simp)).1
 have hkn:=h.dpi.k_lt hb
 refine h.newD (D':=M.D) (dr':=Qq4 st.dr k (some ⟨ty,xs'⟩)) (nd':=st.nd) (.refl _) (by simp) (fun c hc _=>by rw [hblk,if_neg (fun e=>hc (by rw [e];exact hmk))]) (BelowB.setRow h.below hbase _) ?_
 refine ⟨h.dpi.N,fun q hq=>?_,fun q b' hq=>?_,h.dpi.nodup,fun q u' bs' c hq hc=>?_,h.dpi.sep⟩
 ·rw [Zi _ _ _ _ (by omega)]
  exact h.dpi.far q hq
 ·by_cases e1:q=k
  ·subst e1
   rw [Ya] at hq
   cases hq
   exact ⟨_,_,hδ,some ⟨b,o,none⟩,cap,by rw [hlen'],by rw [hlen'];exact q1,q2,(fun e=>by cases e),.inr ⟨b,o,arr',T,bss,rfl,by rw [hblk,if_pos rfl],rfl,by rw [hlen'];exact hbl,by rw [hsize];exact hfit0,hrow⟩⟩
  ·rw [Zi _ _ _ _ e1] at hq
   obtain ⟨u',bs',p1,p2⟩:=h.dpi.has q b' hq
   refine ⟨u',bs',p1,p2.stays fun c hc=>?_⟩
   rw [hblk,if_neg]
   intro e
   subst e
   exact e1 (h.dpi.sep q k _ _ _ _ c p1 hδ hc (by simp))
 ·obtain ⟨r1,r2,r3,r4,r5⟩:=h.dpi.blk q u' bs' c hq hc
  exact ⟨r1,by simpa using r2,r3,r4,r5⟩
theorem Qyt {us:List Value}:∀ (n j:Nat),j<n→(((List.replicate n us).flatten).drop (j*us.length)).take us.length=us
 | n+1,0,_=>by rw [List.replicate_succ,List.flatten_cons,Nat.zero_mul,List.drop_zero,List.take_append,List.take_length,Nat.sub_self,List.take_zero,List.append_nil]
 | n+1,j+1,h=>by
  rw [List.replicate_succ,List.flatten_cons,Nat.succ_mul,List.drop_append,List.drop_of_length_le (by omega),List.nil_append,show j*us.length+us.length - us.length=j*us.length by omega]
  exact Qyt n j (by omega)
theorem Qsn (us:Array Value) (n:Nat):(Builtin.zeroCells us n).toList=(List.replicate n us.toList).flatten:=by
 unfold Builtin.zeroCells
 rw [Array.toList_map,Array.toList_range]
 induction n with
 | zero=>simp
 | succ n ih =>
  rw [List.replicate_succ',List.flatten_append,Nat.succ_mul,List.range_add,List.map_append,ih]
  congr 1
  simp only [List.flatten_cons,List.flatten_nil,List.append_nil,List.map_map]
  apply List.ext_getElem
  ·simp
  ·intro i h1 h2
   simp at h1 h2
   simp [Nat.mul_add_mod,Nat.mul_comm,Nat.mod_eq_of_lt h1,h1]
theorem Qvy (h:Rel P base w0 dp st θ M w) {t ty0:TypeId} {x:V} {vx:Value} {K:Z9 R} {r:R} (hs:Qxj P st t x K=some r) (hx:RelV M x vx) :
  ∃ st' w' M',K st'=some r∧(Builtin.clear_ #[t] ty0 #[vx]).run P w=.ok (.tuple #[]) w'∧Rel P base w0 dp st' θ M' w':=by
 unfold Qxj at hs
 split at hs
 case h_2=>cases hs
 rename_i e k sz lo ht
 split at hs
 case h_2=>cases hs
 rename_i ty xs hb
 split at hs
 case h_2=>cases hs
 rename_i zc hz
 split at hs
 case h_2=>cases hs
 rename_i z hzz
 obtain ⟨h0,hs2⟩:=Qn hs
 clear hs
 simp only [Bool.and_eq_true] at h0
 obtain ⟨⟨c1,c2⟩,c3⟩:=h0
 have c1:sz=ty.cells:=Nat.eq_of_beq_eq_true c1
 subst c1
 have c3:0<ty.cells:=Nat.le_of_ble_eq_true c3
 obtain ⟨i,v,hi,hv,rfl,hone⟩:=Xs hz
 have hzr:RelL M (v.cells.toList.map WP) v.cells.toList:=QbO M _ (fun u hu=>hone u (by simpa using hu))
 have hzd:=V5 hzz hzr
 have hzl:v.cells.toList.length=ty.cells:=hzd.len
 obtain ⟨u0,bs,hδ,ad,cap,hu,q1,q2,q3,q4⟩:=h.dpi.has k _ hb
 simp only [List.cons.injEq,and_true] at hu
 subst hu
 simp only at q1 q4
 obtain ⟨p1,_,rfl⟩:=hx.dvw_inv.2.2 _ _ _ _ hδ
 generalize hL:lo.toNat=L at *
 have hlen':(xs.take L++List.replicate (xs.length - L) z).length=xs.length:=by simp;omega
 simp only [Option.elim_none]
 by_cases hn:xs.length - L=0
 ·have hsame:xs.take L++List.replicate (xs.length - L) z=xs:=by rw [hn,List.replicate_zero,List.append_nil];exact List.take_of_length_le (by omega)
  rw [hsame] at hs2
  have hst:st.setD k (some ⟨ty,xs⟩)=st:=by
   unfold St.setD
   have:Qq4 st.dr k (some ⟨ty,xs⟩)=st.dr:=by
    funext q
    by_cases e:q=k
    ·subst e;rw [Ya,hb]
    ·rw [Zi _ _ _ _ e]
   rw [this]
  rw [hst] at hs2
  refine ⟨st,w,M,hs2,?_,h⟩
  rw [hn]
  split
  all_goals (cases ad<;>simp [Builtin.clear_,run_underlying ht])
 ·rcases q4 with ⟨q4,_⟩ | ⟨b,o,arr,T,bss,rfl,hh,rfl,hbl,hfit0,hrow⟩
  ·omega
  have hcapL:¬ cap=L:=by omega
  have hmul:L*ty.cells+(xs.length - L)*ty.cells=xs.length*ty.cells:=by rw [← Nat.add_mul];congr 1;omega
  have hfit:o+xs.length*ty.cells≤arr.size:=Nat.le_trans (Nat.add_le_add_left (Nat.mul_le_mul_right _ q1) _) hfit0
  generalize hus:v.cells.toList=us at *
  have hfl:((List.replicate (xs.length - L) us).flatten).length=(xs.length - L)*ty.cells:=by simp [hzl]
  have hzcells:(Builtin.zeroCells v.cells (xs.length - L)).toList=(List.replicate (xs.length - L) us).flatten:=by rw [Qsn,hus]
  have honeL:∀ u∈(List.replicate (xs.length - L) us).flatten,u.oneCell'=true:=by
   intro u hu
   obtain ⟨l,hl,hu⟩:=List.mem_flatten.1 hu
   rw [List.eq_of_mem_replicate hl,← hus] at hu
   exact hone u (by simpa using hu)
  have hst:=run_storeCells_at P b (o+L*ty.cells) T (List.replicate (xs.length - L) us).flatten 0 arr w hh (by rw [hfl];omega) honeL
  simp only [Nat.add_zero] at hst
  generalize harr:(arr.toList.take (o+L*ty.cells)++(List.replicate (xs.length - L) us).flatten++arr.toList.drop (o+L*ty.cells+(List.replicate (xs.length - L) us).flatten.length)).toArray=arr' at hst
  have hal:arr.toList.length=arr.size:=Array.length_toList
  have harr':arr'.toList=arr.toList.take (o+L*ty.cells)++(List.replicate (xs.length - L) us).flatten++arr.toList.drop (o+L*ty.cells+(List.replicate (xs.length - L) us).flatten.length):=by rw [← harr]
  have hsize:arr'.size=arr.size:=by
   have:arr'.toList.length=arr.size:=by rw [harr',List.length_append,List.length_append,hfl];simp;omega
   simpa using this
  refine ⟨_,w.setRow b arr',M,hs2,?_,Qwq h hb hδ hh hbl hfit0 q1 q2 hlen' hsize fun j x bj hx hbj=>?_⟩
  ·rw [if_neg hcapL]
   obtain ⟨m,hm⟩:∃ m,xs.length - L=m+1:=⟨xs.length - L - 1,by omega⟩
   rw [hm] at hst hzcells ⊢
   simp [Builtin.clear_,run_underlying ht,QcH hi hv,hzcells,Addr.add_lit,hst]
  ·have hjl:j<xs.length:=by have:=(List.getElem?_eq_some_iff.1 hx).1;omega
   have hjf:j*ty.cells+ty.cells≤xs.length*ty.cells:=by rw [← Nat.succ_mul];exact Nat.mul_le_mul_right _ hjl
   rcases Nat.lt_or_ge j L with hj | hj
   ·rw [List.getElem?_append_left (by simp;omega),List.getElem?_take,if_pos hj] at hx
    have hd:=hrow j x bj hx hbj
    have e0:=(WQ (F:=M.F) c2 hd).2
    have hjL:j*ty.cells+ty.cells≤L*ty.cells:=by rw [← Nat.succ_mul];exact Nat.mul_le_mul_right _ hj
    have hcs:(arr'.toList.drop (o+j*ty.cells)).take ty.cells=(arr.toList.drop (o+j*ty.cells)).take ty.cells:=by
     rw [harr']
     apply List.ext_getElem?
     intro n
     rw [List.getElem?_take,List.getElem?_take]
     split
     ·rw [List.getElem?_drop,List.getElem?_drop,List.append_assoc,List.getElem?_append_left (by simp;omega),List.getElem?_take,if_pos (by omega)]
     ·rfl
    rw [hcs]
    exact hd.stays fun c hc=>by rw [e0] at hc;cases hc
   ·rw [List.getElem?_append_right (by simp;omega),List.getElem?_replicate] at hx
    split at hx
    case isFalse=>cases hx
    cases hx
    have hd0:=hrow j _ bj (List.getElem?_eq_getElem hjl) hbj
    have e0:=(WQ (F:=M.F) c2 hd0).2
    subst e0
    have hoff:o+j*ty.cells=o+L*ty.cells+(j - L)*us.length:=by rw [hzl,Nat.add_assoc,← Nat.add_mul];congr 2;omega
    have hjm:(j - L)*us.length+us.length≤(xs.length - L)*ty.cells:=by rw [hzl,← Nat.succ_mul];exact Nat.mul_le_mul_right _ (by omega)
    have hcs:(arr'.toList.drop (o+j*ty.cells)).take ty.cells=us:=by
     rw [harr',hoff,List.append_assoc,List.drop_append,List.drop_of_length_le (by simp;omega),List.length_take,Nat.min_eq_left (by omega),List.nil_append,show o+L*ty.cells+(j - L)*us.length - (o+L*ty.cells)=(j - L)*us.length by omega,List.drop_append,List.take_append]
     rw [show ((List.replicate (xs.length - L) us).flatten.drop ((j - L)*us.length)).take ty.cells=us from by rw [← hzl];exact Qyt _ _ (by omega)]
     rw [List.length_drop,hfl,show ty.cells - ((xs.length - L)*ty.cells - (j - L)*us.length)=0 by omega,List.take_zero,List.append_nil]
    rw [hcs]
    exact QdS c2 hzd
end
end Go.Ab
