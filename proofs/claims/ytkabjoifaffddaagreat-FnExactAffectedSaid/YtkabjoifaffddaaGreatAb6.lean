import Derived.Test.YtkabjoifaffddaaGreatAb5
import Derived.Laws.IdiomStrings
namespace Go.Ab
variable {R:Type}
theorem Qpn {u:Value} (h:u.oneCell'=true):u.cells=#[u]:=by
 cases u<;>first | rfl | (simp [Value.oneCell'] at h)
theorem QAS:∀ (vs:List Value) (off:Nat) (l:List Value),off+vs.length≤l.length →
  (vs.zipIdx 0).foldl (fun cs (x:Value × Nat)=>cs.set (off+x.2) x.1) l=l.take off++vs++l.drop (off+vs.length):=by
 have gen:∀ (vs:List Value) (k off:Nat) (l:List Value),off+k+vs.length≤l.length →
   (vs.zipIdx k).foldl (fun cs (x:Value × Nat)=>cs.set (off+x.2) x.1) l=l.take (off+k)++vs++l.drop (off+k+vs.length):=by
  intro vs
  induction vs with
  | nil=>intro k off l _;simp
  | cons v vs ih =>
   intro k off l h
   simp only [List.length_cons] at h
   rw [List.zipIdx_cons,List.foldl_cons,ih (k+1) off _ (by simp;omega)]
   have h1:(l.set (off+k) v).take (off+(k+1))=l.take (off+k)++[v]:=by
    rw [show off+(k+1)=(off+k)+1 by omega,List.take_succ_eq_append_getElem (by simp;omega),List.take_set_of_le (by omega)]
    simp
   have h2:(l.set (off+k) v).drop (off+(k+1)+vs.length)=l.drop (off+k+(v::vs).length):=by
    rw [List.drop_set_of_lt (by omega)]
    congr 1
    simp only [List.length_cons];omega
   rw [h1,h2]
   simp
 intro vs off l h
 simpa using gen vs 0 off l (by simpa using h)
theorem Qco (vs:Array Value) (off:Nat) (cells:Array Value) (h:off+vs.size≤cells.size) :
  (vs.zipIdx.foldl (fun cs (x:Value × Nat)=>cs.setIfInBounds (off+x.2) x.1) cells).toList=cells.toList.take off++vs.toList++cells.toList.drop (off+vs.size):=by
 rw [← Array.foldl_toList,Array.toList_zipIdx]
 have gen:∀ (l:List (Value × Nat)) (c:Array Value),(l.foldl (fun cs (x:Value × Nat)=>cs.setIfInBounds (off+x.2) x.1) c).toList=l.foldl (fun cs (x:Value × Nat)=>cs.set (off+x.2) x.1) c.toList:=by
  intro l
  induction l with
  | nil=>intro c;rfl
  | cons x l ih=>intro c;rw [List.foldl_cons,List.foldl_cons,ih];simp
 rw [gen,QAS vs.toList off cells.toList (by simpa using h)]
 simp
theorem Uk {M:Me} {cs vs:List V} {us ws:List Value} (h:RelL M cs us) (h':RelL M vs ws) (off:Nat):RelL M (YO cs off vs) (us.take off++ws++us.drop (off+ws.length)):=by
 unfold YO
 rw [h'.len]
 exact ((h.take off).append h').append (h.drop _)
theorem QfG {n:Nat} {cs vs:List V} {off:Nat} (h:V.le.leL n cs=true) (h':V.le.leL n vs=true):V.le.leL n (YO cs off vs)=true:=by
 refine Ug fun c hc=>?_
 unfold YO at hc
 rcases List.mem_append.1 hc with hc | hc
 ·rcases List.mem_append.1 hc with hc | hc
  ·obtain ⟨j,hj⟩:=List.getElem?_of_mem (List.mem_of_mem_take hc);exact VT h hj
  ·obtain ⟨j,hj⟩:=List.getElem?_of_mem hc;exact VT h' hj
 ·obtain ⟨j,hj⟩:=List.getElem?_of_mem (List.mem_of_mem_drop hc);exact VT h hj
theorem Qvo {cs vs:List V} {off:Nat} (h:off+vs.length≤cs.length):(YO cs off vs).length=cs.length:=by
 simp [YO];omega
theorem Ua {M:Me} {v:V} {u:Value} (h:RelV M v u) (hp:v.plain=true):RelL M v.cellsOf u.cells.toList:=by
 have one:u.oneCell'=true→RelL M [v] u.cells.toList:=fun h1=>by
  rw [Qpn h1];exact .cons h h1 (.nil M)
 cases v with
 | any=>cases hp
 | un=>cases hp
 | tup _=>cases hp
 | raw _=>cases hp
 | dr _=>exact one h.dr_one
 | dq _ _ _ _=>cases hp
 | dvw _ _ _ _=>cases hp
 | qptr _ _ _ _=>cases hp
 | agg cs=>obtain ⟨arr,rfl,hl⟩:=h.aggL;exact hl
 | d t x=>cases h with | d _ _ _ hd=>exact one (hd.one u (by simp))
 | eptr cs=>obtain ⟨b,o,us,rfl,_⟩:=h.eptr_inv;exact one rfl
 | ptr d s off=>obtain ⟨b,n,rfl,_⟩:=h.ptr_inv;exact one rfl
 | rptr d s sz i off=>obtain ⟨b,n,rfl,_⟩:=h.rptr_inv;exact one rfl
 | own tok t xs=>exact one (h.own_inv.1.one u (by simp))
 | nils=>cases h;exact one rfl
 | msl d s=>cases h;exact one rfl
 | fn f cs=>cases h;exact one rfl
 | mp d s=>obtain ⟨b,n,rfl,_⟩:=h.mp_inv;exact one rfl
theorem Qmw {v:V} {n:Nat} (h:v.le n=true):V.le.leL n v.cellsOf=true:=by
 cases v with
 | agg cs=>exact h
 | _=>simp only [V.cellsOf,V.le.leL,h,Bool.and_self]
section
variable {P:Program} {base:Base} {w0:Orig} {dp nn:Nat} {st:St} {θ:Nat→Nat→Value} {M:Me} {a:Act} {w:World}
theorem QbO (M:Me) (vs:List Value) (h:∀ v∈vs,v.oneCell'=true):RelL M (vs.map WP) vs :=
 ⟨by simp,fun i c u hc hu=>by
  rw [List.getElem?_map,hu] at hc
  simp only [Option.map_some,Option.some.injEq] at hc
  subst hc
  exact Qqw M u,h⟩
theorem Qpo (n:Nat) (vs:List Value):V.le.leL n (vs.map WP)=true:=by
 refine Ug fun c hc=>?_
 obtain ⟨v,_,rfl⟩:=List.mem_map.1 hc
 exact Qsd v n
theorem Xs {t:TypeId} {z:List V} (h:zeroCells P t=some z):∃ i v,P.info? t=some i∧i.zero=some v∧z=v.cells.toList.map WP∧∀ u∈v.cells,u.oneCell'=true:=by
 unfold zeroCells at h
 split at h
 ·rename_i v hv
  obtain ⟨i,hi,hz⟩:=Option.bind_eq_some_iff.1 hv
  obtain ⟨h0,h⟩:=Qn h
  simp only [Option.some.injEq] at h
  refine ⟨i,v,hi,hz,h.symm,fun u hu=>?_⟩
  exact List.all_eq_true.1 h0 u (by simpa using hu)
 ·cases h
theorem QcH {t:TypeId} {i:TypeInfo} {v:Value} (hi:P.info? t=some i) (hz:i.zero=some v):(zeroValue t).run P w=.ok v w:=by
 simp [zeroValue,typeInfo,hi,hz]
theorem Qxr (fs:Array Field) (h:(fs.toList.all fun f=>(P.info? f.type).isSome)=true) :
  (fs.mapM fun f=>do pure (f.offset,← sizeOf f.type):Sem (Array (Nat × Nat))).run P w=.ok (fs.map fun f=>(f.offset,P.cellsOf f.type)) w:=by
 rw [Array.mapM_eq_mapM_toList]
 have gen:∀ l:List Field,(l.all fun f=>(P.info? f.type).isSome)=true→(l.mapM fun f=>do pure (f.offset,← sizeOf f.type):Sem (List (Nat × Nat))).run P w=.ok (l.map fun f=>(f.offset,P.cellsOf f.type)) w:=by
  intro l
  induction l with
  | nil=>intro _;rfl
  | cons f l ih =>
   intro h
   rw [List.all_cons,Bool.and_eq_true] at h
   obtain ⟨i,hi⟩:=Option.isSome_iff_exists.1 h.1
   have hs:P.cellsOf f.type=i.size:=by simp [Program.cellsOf,hi]
   rw [List.mapM_cons]
   simp only [Sem.run_bind,Zy hi,Result.andThen_ok,Sem.run_pure,ih h.2,List.map_cons,hs]
 rw [Sem.run_map,gen _ h,Result.andThen_ok,← Array.toList_map,Array.toArray_toList]
theorem Qsg {fs:Array Field}:∀ (parts:List (Nat × V)) (vparts:List (Nat × Value)) (cs:List V) (cells:Array Value) (cs':List V),Qnw P fs cs parts=some cs' →
  parts.length=vparts.length→(∀ (j:Nat) p q,parts[j]? = some p→vparts[j]? = some q→p.1=q.1∧RelV M p.2 q.2∧p.2.le dp=true)→RelL M cs cells.toList→V.le.leL dp cs=true →
  ∃ cells',Instr.fill ((fs.map fun f=>(f.offset,P.cellsOf f.type))[·]?) cells vparts=some cells'∧RelL M cs' cells'.toList∧V.le.leL dp cs'=true
 | [],[],cs,cells,cs',h,_,_,hr,hle=>by
  simp only [Qnw,Option.some.injEq] at h
  subst h
  exact ⟨cells,rfl,hr,hle⟩
 | [],_::_,_,_,_,_,h,_,_,_=>by simp at h
 | _::_,[],_,_,_,_,h,_,_,_=>by simp at h
 | (i,v)::parts,(i',u)::vparts,cs,cells,cs',h,hlen,hp,hr,hle=>by
  obtain ⟨e1,rv,lv⟩:=hp 0 _ _ rfl rfl
  simp only at e1 rv lv
  subst e1
  simp only [Qnw] at h
  split at h
  case h_2=>cases h
  rename_i f hf
  obtain ⟨h0,h⟩:=Qn h
  simp only [Bool.and_eq_true] at h0
  obtain ⟨⟨⟨h1,_⟩,h2⟩,h3⟩:=h0
  have hsz:v.cellsOf.length=P.cellsOf f.type:=Nat.eq_of_beq_eq_true h1
  have hfit:=Nat.le_of_ble_eq_true h3
  have hc:=Ua rv h2
  have hl:u.cells.size=P.cellsOf f.type:=by rw [← hsz,hc.len];simp
  have hfit':f.offset+u.cells.size≤cells.size:=by
   have:=hr.len
   simp only [Array.length_toList] at this
   omega
  have hpl:(fs.map fun f=>(f.offset,P.cellsOf f.type))[i]? = some (f.offset,P.cellsOf f.type):=by simp [hf]
  have hset:=Qco u.cells f.offset cells hfit'
  have hr':RelL M (YO cs f.offset v.cellsOf) (u.cells.zipIdx.foldl (fun cs (x:Value × Nat)=>cs.setIfInBounds (f.offset+x.2) x.1) cells).toList:=by
   rw [hset]
   have:=Uk hr hc f.offset
   simpa using this
  obtain ⟨cells',k1,k2,k3⟩:=Qsg parts vparts _ _ cs' h (by simpa using hlen) (fun j p q hj hq=>hp (j+1) p q hj hq) hr' (QfG hle (Qmw lv))
  refine ⟨cells',?_,k2,k3⟩
  simp only [Instr.fill,hpl]
  rw [if_neg (by simp [hl];omega)]
  exact k1
theorem QqB {sz:Nat}:∀ (parts:List (Nat × V)) (vparts:List (Nat × Value)) (cs:List V) (cells:Array Value) (cs':List V),Qnx sz cs parts=some cs' →
  parts.length=vparts.length→(∀ (j:Nat) p q,parts[j]? = some p→vparts[j]? = some q→p.1=q.1∧RelV M p.2 q.2∧p.2.le dp=true)→RelL M cs cells.toList→V.le.leL dp cs=true →
  ∃ cells',Instr.fill (fun i=>some (i*sz,sz)) cells vparts=some cells'∧RelL M cs' cells'.toList∧V.le.leL dp cs'=true
 | [],[],cs,cells,cs',h,_,_,hr,hle=>by
  simp only [Qnx,Option.some.injEq] at h
  subst h
  exact ⟨cells,rfl,hr,hle⟩
 | [],_::_,_,_,_,_,h,_,_,_=>by simp at h
 | _::_,[],_,_,_,_,h,_,_,_=>by simp at h
 | (i,v)::parts,(i',u)::vparts,cs,cells,cs',h,hlen,hp,hr,hle=>by
  obtain ⟨e1,rv,lv⟩:=hp 0 _ _ rfl rfl
  simp only at e1 rv lv
  subst e1
  simp only [Qnx] at h
  obtain ⟨h0,h⟩:=Qn h
  simp only [Bool.and_eq_true] at h0
  obtain ⟨⟨h1,h2⟩,h3⟩:=h0
  have hsz:v.cellsOf.length=sz:=Nat.eq_of_beq_eq_true h1
  have hfit:=Nat.le_of_ble_eq_true h3
  have hc:=Ua rv h2
  have hl:u.cells.size=sz:=by rw [← hsz,hc.len];simp
  have hfit':i*sz+u.cells.size≤cells.size:=by
   have:=hr.len
   simp only [Array.length_toList] at this
   omega
  have hset:=Qco u.cells (i*sz) cells hfit'
  have hr':RelL M (YO cs (i*sz) v.cellsOf) (u.cells.zipIdx.foldl (fun cs (x:Value × Nat)=>cs.setIfInBounds (i*sz+x.2) x.1) cells).toList:=by
   rw [hset]
   have:=Uk hr hc (i*sz)
   simpa using this
  obtain ⟨cells',k1,k2,k3⟩:=QqB parts vparts _ _ cs' h (by simpa using hlen) (fun j p q hj hq=>hp (j+1) p q hj hq) hr' (QfG hle (Qmw lv))
  refine ⟨cells',?_,k2,k3⟩
  simp only [Instr.fill]
  rw [if_neg (by simp [hl];omega)]
  exact k1
theorem Qvp {t:TypeId} {parts:List (Nat × V)} {vparts:Array (Nat × Value)} {K:V→Option R} {r:R} (h:Qpa P t parts K=some r) (hlen:parts.length=vparts.size)
  (hp:∀ (j:Nat) p q,parts[j]? = some p→vparts.toList[j]? = some q→p.1=q.1∧RelV M p.2 q.2∧p.2.le dp=true) :
  Eh P M w dp K r (Instr.build t vparts):=by
 unfold Qpa at h
 split at h
 case h_3=>cases h
 case h_2 =>
  rename_i n e z hfs hz
  obtain ⟨h0,h2⟩:=Qn h
  clear h
  split at h2
  case h_2=>cases h2
  rename_i cs hcs
  obtain ⟨i,v,hi,hv,rfl,h1⟩:=Xs hz
  obtain ⟨inf,hinf⟩:=Option.isSome_iff_exists.1 h0
  have hs:P.cellsOf e=inf.size:=by simp [Program.cellsOf,hinf]
  obtain ⟨cells',k1,k2,k3⟩:=QqB (dp:=dp) parts vparts.toList _ v.cells cs hcs (by simpa using hlen) hp (QbO M v.cells.toList (fun u hu=>h1 u (by simpa using hu))) (Qpo dp _)
  refine ⟨_,.agg cells',h2,?_,.agg _ _ (by simpa using k2.len) (fun i c u hc hu=>k2.at_ i c u hc (by simpa using hu)) (fun u hu=>k2.one u (by simpa using hu)),k3⟩
  intro w' _
  rw [hs] at k1
  unfold Instr.build
  simp only [Sem.run_bind,QcH hi hv,Result.andThen_ok,run_underlying hfs,Zy hinf,k1,Sem.run_pure]
 rename_i fs z hfs hz
 obtain ⟨h0,h2⟩:=Qn h
 clear h
 split at h2
 case h_2=>cases h2
 rename_i cs hcs
 obtain ⟨i,v,hi,hv,rfl,h1⟩:=Xs hz
 obtain ⟨cells',k1,k2,k3⟩:=Qsg (dp:=dp) parts vparts.toList _ v.cells cs hcs (by simpa using hlen) hp (QbO M v.cells.toList (fun u hu=>h1 u (by simpa using hu))) (Qpo dp _)
 refine ⟨_,.agg cells',h2,?_,.agg _ _ (by simpa using k2.len) (fun i c u hc hu=>k2.at_ i c u hc (by simpa using hu)) (fun u hu=>k2.one u (by simpa using hu)),k3⟩
 intro w' _
 unfold Instr.build
 simp only [Sem.run_bind,QcH hi hv,Result.andThen_ok,run_underlying hfs,Qxr fs h0,k1,Sem.run_pure]
theorem Qxs {xs:List Int} (h:∀ x∈xs,inK .u8 x=true):ZE (strOfNums xs)=xs:=by
 unfold ZE
 rw [strOfNums_data,List.map_map]
 conv=>rhs;rw [← List.map_id xs]
 apply List.map_congr_left
 intro x hx
 have:=VZ.1 (h x hx)
 rw [Qmr,Qms] at this
 simp only [Function.comp_apply,id_eq]
 have:(UInt8.ofNat x.toNat).toNat=x.toNat:=by simp;omega
 rw [this];omega
theorem QAT {xs:List Int} {v:Value} (h:RelD M.F (.list (.int .u8)) xs [v]):∀ x∈xs,inK .u8 x=true:=by
 obtain ⟨ad,cap,hv,h1,h2,h3,h4⟩:=h
 intro x hx
 obtain ⟨i,hi⟩:=List.getElem?_of_mem hx
 cases ad with
 | none =>
  have hc:=h3 rfl
  have hl:i<xs.length:=(List.getElem?_eq_some_iff.1 hi).1
  have h1':xs.length≤cap:=h1
  omega
 | some ad =>
  obtain ⟨_,es,he,_⟩:=h4 ad rfl i x hi
  exact he.2
theorem Qwh {src dst:TypeId} {x:V} {vx:Value} {K:V→Option R} {r:R} (h:QrZ P src dst x K=some r) (hns:¬ (P.underlying src=some .string∧∃ e,P.underlying dst=some (.slice e))) (hrel:Rel P base w0 dp st θ M w) (hx:RelV M x vx) :
  Eh P M w dp K r (convert src dst vx):=by
 have bytes:∀ (e:TypeId) (s:List Int),P.underlying src=some (.slice e)→P.underlying dst=some .string→P.underlying e=some (.int .u8)→RelD M.F (.list (.int .u8)) s [vx]→(s.length:Int)≤Q4→K (.d .str s)=some r →
   Eh P M w dp K r (convert src dst vx):=by
  intro e s hs hd he hD hroom h
  have hin:=QAT hD
  obtain ⟨ad,cap,hv,h1,h2,h3,h4⟩:=hD
  simp only [List.cons.injEq,and_true] at hv
  subst hv
  rw [Xf] at hroom
  have hlen:List.length (α:=Int) s≤140737488355328:=by omega
  cases ad with
  | none =>
   have hc:=h3 rfl
   have h1':List.length (α:=Int) s≤cap:=h1
   have hs0:s=([]:List Int):=List.eq_nil_of_length_eq_zero (by omega)
   subst hs0
   exact ⟨_,_,h,fun w _=>run_convert_bytes_nil w src e hs he _ _ dst hd,RelV.mkStr ByteArray.empty (by decide),rfl⟩
  | some ad =>
   obtain ⟨b,o,sp⟩:=ad
   cases s with
   | nil =>
    refine ⟨_,_,h,?_,RelV.mkStr ByteArray.empty (by decide),rfl⟩
    intro w' _
    rw [run_convert_bytes_string w' src dst e _ _ _ hs he hd]
    have e0:loadCells ⟨b,o,sp⟩ 0=pure #[]:=rfl
    show (Conv.bytesToString (.slice (some ⟨b,o,sp⟩) 0 cap)).run P w'=_
    simp [Conv.bytesToString,e0]
   | cons s0 sr =>
   generalize hs':s0::sr=s at *
   have hsp:=(h4 _ rfl 0 s0 (by rw [← hs'];rfl)).1
   have hel:=fun i x hx=>(h4 _ rfl i x hx).2
   simp only at hsp
   subst hsp
   have hrun:=fun (w':World) (hw':BelowN w.heap.size w w')=>run_convert_bytes_arg (P:=P) w' src e hs he b o (List.length (α:=Int) s) cap s rfl (fun i hi=>by
    obtain ⟨es,hes,hc⟩:=hel i (s.getD i 0) (by simp [List.getD,List.getElem?_eq_getElem hi])
    obtain ⟨rfl,_⟩:=hes
    have:=hc 0 _ rfl
    simp only [Ty.cells,Nat.mul_one,Nat.add_zero] at this
    exact Qmu hw' (hrel.F _ _ this).cell) dst hd
   refine ⟨_,_,h,hrun,?_,rfl⟩
   have:=RelV.mkStr (M:=M) (strOfNums s) (by rw [strOfNums_size];exact hlen)
   rwa [Qxs hin] at this
 unfold QrZ at h
 split at h
 ·rename_i _ k _ k' n hs hd
  obtain ⟨rfl,_⟩:=hx.int_inv
  exact (GivesFlat.int h (by simp [convert,run_underlying hs,run_underlying hd,Conv.intToInt]) (Wk _ _)).l dp
 ·rename_i _ s hs hd
  obtain ⟨bs,rfl,rfl,hsz⟩:=hx.str_inv
  exact ⟨_,_,h,fun w _=>by simp [convert,run_underlying hs,run_underlying hd],.mkStr bs hsz,rfl⟩
 ·rename_i e _ hs hd
  exact absurd ⟨hs,e,hd⟩ hns
 ·rename_i e s hs hd
  split at h
  case h_2=>cases h
  rename_i he
  obtain ⟨h0,h⟩:=Qn h
  exact bytes e s hs hd he hx.list_inv (by simpa using h0) h
 ·rename_i e _ s hs hd
  split at h
  case h_2=>cases h
  rename_i he
  obtain ⟨h0,h⟩:=Qn h
  exact bytes e s hs hd he hx.own_inv.1 (by simpa using h0) h
 ·rename_i e hs hd
  split at h
  case h_2=>cases h
  rename_i he
  cases hx with
  | nils=>exact ⟨_,_,h,fun w _=>run_convert_bytes_nil w src e hs he _ _ dst hd,RelV.mkStr ByteArray.empty (by decide),rfl⟩
 ·cases h
end
end Go.Ab
