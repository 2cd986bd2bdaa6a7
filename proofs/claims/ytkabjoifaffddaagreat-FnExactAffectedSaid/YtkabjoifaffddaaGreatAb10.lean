import Derived.Test.YtkabjoifaffddaaGreatAb9
namespace Go.Ab
variable {R:Type}
theorem Qej {P:Program} {M:Me} {e:TypeId} {ty:Ty} {z:ty.den} (h:Qmk P e ty=some z):∃ i v,P.info? e=some i∧i.zero=some v∧RelD M.F ty z v.cells.toList∧v.cells.size=ty.cells:=by
 unfold Qmk at h
 obtain ⟨zc,h1,h2⟩:=Option.bind_eq_some_iff.1 h
 obtain ⟨i,v,hi,hv,rfl,h3⟩:=Xs h1
 have hr:=V5 h2 (QbO M v.cells.toList (fun u hu=>h3 u (by simpa using hu)))
 exact ⟨i,v,hi,hv,hr,by have:=hr.len;simpa using this⟩
theorem RelU.cells' {F:Snap} {t:Ty} {x:t.den} {v:Value} (h:RelU F t x v):v.cells.size=t.cells:=by
 have:=h.cells.len;simpa using this
section
variable {P:Program} {base:Base} {w0:Orig} {dp nn:Nat} {st:St} {θ:Nat→Nat→Value} {M M':Me} {a:Act} {w w':World}
theorem Qjw {ty:Ty}:∀ (parts:List (Nat × V)) (vparts:List (Nat × Value)) (xs ys:List ty.den) (cells:Array Value),Quf ty xs parts=some ys→parts.length=vparts.length →
  (∀ (j:Nat) p q,parts[j]? = some p→vparts[j]? = some q→p.1=q.1∧RelV M p.2 q.2)→RowsRel M.F ty xs cells.toList →
  ∃ cells',Instr.fill (fun i=>some (i*ty.cells,ty.cells)) cells vparts=some cells'∧RowsRel M.F ty ys cells'.toList∧ys.length=xs.length
 | [],[],xs,ys,cells,h,_,_,hr=>by
  simp only [Quf,Option.some.injEq] at h
  subst h
  exact ⟨cells,rfl,hr,rfl⟩
 | [],_::_,_,_,_,_,h,_,_=>by simp at h
 | _::_,[],_,_,_,_,h,_,_=>by simp at h
 | (i,v)::parts,(i',u)::vparts,xs,ys,cells,h,hlen,hp,hr=>by
  obtain ⟨e1,rv⟩:=hp 0 _ _ rfl rfl
  simp only at e1 rv
  subst e1
  simp only [Quf] at h
  split at h
  case h_2=>cases h
  rename_i x hx
  obtain ⟨h0,h⟩:=Qn h
  have hi:i<xs.length:=Nat.le_of_ble_eq_true h0
  have hu:=UJ hx rv
  have hus:=hu.cells'
  have hcl:=hr.len
  have hfit:i*ty.cells+u.cells.size≤cells.size:=by
   have h2:(i+1)*ty.cells≤xs.length*ty.cells:=Nat.mul_le_mul_right _ hi
   rw [Nat.succ_mul] at h2
   simp only [Array.length_toList] at hcl
   omega
  have hset:=Qco u.cells (i*ty.cells) cells hfit
  have hr':RowsRel M.F ty (xs.set i x) (u.cells.zipIdx.foldl (fun cs (x:Value × Nat)=>cs.setIfInBounds (i*ty.cells+x.2) x.1) cells).toList:=by
   rw [hset]
   have:=hr.set hi hu.cells
   simpa using this
  obtain ⟨cells',k1,k2,k3⟩:=Qjw parts vparts _ ys _ h (by simpa using hlen) (fun j p q hj hq=>hp (j+1) p q hj hq) hr'
  refine ⟨cells',?_,k2,by simpa using k3⟩
  simp only [Instr.fill]
  rw [if_neg (by simp [hus];omega)]
  exact k1
theorem QnH (h:Rel P base w0 dp st θ M w) {t:TypeId} {len:Nat} {parts:List (Nat × V)} {vparts:Array (Nat × Value)} {K:V→Z9 R} {r:R} (hs:QcC P st t len parts K=some r) (hlen:parts.length=vparts.size)
  (hp:∀ (j:Nat) p q,parts[j]? = some p→vparts.toList[j]? = some q→p.1=q.1∧RelV M p.2 q.2):TurnsB P base w0 dp θ w K r (Instr.buildSlice t len vparts):=by
 unfold QcC at hs
 split at hs
 case h_2=>cases hs
 rename_i e he
 have ht:=Gm he
 split at hs
 case h_2=>cases hs
 rename_i ty hty
 split at hs
 case h_2=>cases hs
 rename_i z hz
 obtain ⟨h0,hs2⟩:=Qn hs
 clear hs
 simp only [Bool.and_eq_true] at h0
 have hbig:=Nat.le_of_ble_eq_true h0.1
 have hpos:0<ty.cells:=Nat.le_of_ble_eq_true h0.2
 split at hs2
 case h_2=>cases hs2
 rename_i xs hxs
 obtain ⟨i,v,hi,hv,hzr,hzs⟩:=Qej (M:=M) hz
 obtain ⟨_,_,_,_,i',hi',hsz⟩:=JP hty
 rw [hi] at hi'
 cases hi'
 have hmade:RowsRel M.F ty (List.replicate len z) (madeCells v.cells (len*ty.cells)).toList:=by
  rw [EM _ _ _ hzs]
  exact Wm hzr len
 obtain ⟨cells',k1,k2,k3⟩:=Qjw parts vparts.toList _ xs _ hxs (by simpa using hlen) hp hmade
 have hxl:xs.length=len:=by simpa using k3
 have hcs:cells'.size=len*ty.cells:=by have:=k2.len;rw [hxl] at this;simpa using this
 have hnew:=h.newSlice (w:=w) k2 cells' e (cap:=len) hcs (by rw [List.take_of_length_le (Nat.le_refl _)]) (by omega) (by
  have:len≤len*ty.cells:=Nat.le_mul_of_pos_right _ hpos
  unfold maxLen;omega) none (fun k hk=>by cases hk)
 refine ⟨_,_,.slice (some ⟨w.heap.size,0,none⟩) len len,_,_,hs2,?_,hnew.1,by have:=hnew.2;rw [hxl] at this ⊢;exact this,rfl,(BelowN.refl _ _).alloc (Nat.le_refl _) _⟩
 have hbig':¬ (len*ty.cells > 2 ^ 24):=by omega
 unfold Instr.buildSlice
 simp only [Sem.run_bind,run_underlying ht,Result.andThen_ok,Zy hi,hsz]
 rw [if_neg hbig']
 have hrow:(newRow e cells').run P w=.ok ⟨w.heap.size,0,none⟩ (w.alloc (.cells cells' e)):=by
  simp [newRow,newObj,Sem.run]
 have hz0:∀ y:Array Value,len*ty.cells=0→(Array.range (len*ty.cells)).map (fun k=>y[k % y.size]!)=madeCells v.cells (len*ty.cells):=by
  intro y h0
  unfold madeCells
  rw [h0,Array.range_zero']
  simp
 by_cases h0:len*ty.cells=0
 ·rw [if_pos h0]
  simp only [Sem.run_bind,Sem.run_pure,Result.andThen_ok]
  rw [hz0 #[] h0,k1]
  simp only [Sem.run_bind,hrow,Result.andThen_ok,Sem.run_pure]
 ·rw [if_neg h0]
  simp only [Sem.run_bind,QcH hi hv,Result.andThen_ok,Sem.run_pure]
  have k1':=k1
  unfold madeCells at k1'
  rw [k1']
  simp only [Sem.run_bind,hrow,Result.andThen_ok,Sem.run_pure]
theorem Qpq (h:Rel P base w0 dp st θ M w) {t:TypeId} {s:Nat} {l c:V} {vl vc:Value} {K:V→Z9 R} {r:R} (hs:QbJ P st dp (some s) t l c K=some r) (hl:RelV M l vl) (hc:RelV M c vc) :
  TurnsB P base w0 dp θ w K r (Instr.makeSlice t vl vc):=by
 unfold QbJ at hs
 split at hs
 case h_2=>cases hs
 rename_i e s' he hse
 cases hse
 have ht:=Gm he
 split at hs
 case h_2=>cases hs
 rename_i ty hty
 split at hs
 case h_2=>cases hs
 rename_i z hz
 split at hs
 case h_2=>cases hs
 rename_i n m
 obtain ⟨rfl,hn1⟩:=hl.int_inv
 obtain ⟨rfl,hm1⟩:=hc.int_inv
 split at hs
 case h_2=>cases hs
 rename_i hb
 obtain ⟨h0,hs2⟩:=Qn hs
 clear hs
 simp only [Bool.and_eq_true,decide_eq_true_eq] at h0
 obtain ⟨⟨⟨h1,h2⟩,h3⟩,h4⟩:=h0
 have hpos:0<ty.cells:=Nat.le_of_ble_eq_true h4
 obtain ⟨i,v,hi,hv,hzr,hzs⟩:=Qej (M:=M) hz
 obtain ⟨_,_,_,_,i',hi',hsz⟩:=JP hty
 rw [hi] at hi'
 cases hi'
 have hmx:=VZ.1 hn1
 rw [Ui] at hmx
 have hby:P.bytesOf e=i.bytes:=by simp [Program.bytesOf,hi]
 rw [hby,Xf] at h3
 have hrun:=run_make (P:=P) w t e i v ht hi hv .i64 .i64 n n h2 (Int.le_refl _) (by rw [Int.mul_comm];exact Int.le_trans h3 (by decide)) hmx.2
 have hmade:RowsRel M.F ty (List.replicate (Int.toNat n) z) (madeCells v.cells (Int.toNat n*ty.cells)).toList:=by
  rw [EM _ _ _ hzs]
  exact Wm hzr _
 have hmaxn:Int.toNat n≤maxLen:=by unfold maxLen;omega
 have hnew:=h.newBox hb (arr:=madeCells v.cells (Int.toNat n*ty.cells)) (T:=e) (bx:=.rows ty (List.replicate (Int.toNat n) z)) (n:=(List.replicate (Int.toNat n) z).length) ⟨rfl,by have:=hmade.len;simpa using this,by simpa using hmaxn,hmade.at_⟩
 rw [hsz] at hrun
 subst h1
 refine ⟨_,_,_,_,_,hs2,hrun,hnew,?_,?_,(BelowN.refl _ _).alloc (Nat.le_refl _) _⟩
 ·refine .msl _ _ _ _ ?_ hmaxn
  simp [Me.box]
 ·simp [V.le]
theorem Qvr (h:Rel P base w0 dp st θ M w) {src dst e:TypeId} (hs:P.underlying src=some .string) (hd:P.underlying dst=some (.slice e)) (he:P.underlying e=some (.int .u8)) {s:ByteArray} (hsz:s.size≤140737488355328) :
  ∃ u w' M',(convert src dst (.string s)).run P w=.ok u w'∧Rel P base w0 dp st θ M' w'∧RelV M' (.d (.list (.int .u8)) (ZE s)) u∧BelowN w.heap.size w w':=by
 have hrun:=run_bytes_of_string (P:=P) w src dst e s hs hd he
 have hge:=grownCap_ge w s.size 0 e
 have hcm:grownCap w s.size 0 e≤maxLen:=grownCap_le_maxLen w s.size 0 e (by unfold maxLen;omega)
 generalize grownCap w s.size 0 e=cap at *
 have hnew:(w.drew.alloc (.cells (bytesRow s cap) e ((bytesRow s cap).size,(bytesRow s cap).size+1))).heap[w.heap.size]? = some (.cells (bytesRow s cap) e ((bytesRow s cap).size,(bytesRow s cap).size+1)):=heap_alloc_new w.drew _
 have hold:∀ k,k<w.heap.size→(w.drew.alloc (.cells (bytesRow s cap) e ((bytesRow s cap).size,(bytesRow s cap).size+1))).heap[k]? = w.heap[k]?:=fun k hk=>heap_alloc_old w.drew _ k hk
 have hlen:(ZE s).length=s.size:=Uj s
 have hrow:RowsRel (M.F.cells w.heap.size ((ZE s).map (Value.int .u8))) (.int .u8) (ZE s) ((ZE s).map (Value.int .u8)):=by
  refine ⟨by simp [Ty.cells],fun i x hx=>?_⟩
  have hil:=(List.getElem?_eq_some_iff.1 hx).1
  simp only [Ty.cells,Nat.mul_one]
  have hx':((ZE s).map (Value.int .u8))[i]? = some (.int .u8 x):=by rw [List.getElem?_map,hx];rfl
  rw [List.drop_eq_getElem_cons (by simpa using hil),List.take_succ_cons,List.take_zero]
  rw [List.getElem?_eq_getElem (by simpa using hil)] at hx'
  simp only [Option.some.injEq] at hx'
  refine ⟨by rw [hx'],?_⟩
  have hi':i<s.size:=by omega
  rw [Qpm hi'] at hx
  simp only [Option.some.injEq] at hx
  rw [← hx]
  exact Qwf _
 refine ⟨_,_,{ M with F:=M.F.cells w.heap.size ((ZE s).map (Value.int .u8)) },hrun,h.ext (M':={ M with F:=M.F.cells w.heap.size ((ZE s).map (Value.int .u8)) }) ⟨?_,fun _ _ _ _ h=>h,Nat.le_refl _,fun _ _ _ h=>h,.refl _⟩ (by simp) hold ?_ rfl rfl rfl rfl (h.below.drew.alloc (by simpa using h.hb) _),?_,(BelowN.refl _ _).drew.alloc (by simp) _⟩
 ·intro ad u hu
  have:=QtN h hu
  simp only [Snap.cells]
  rw [if_neg (by omega)]
  exact hu
 ·intro ad u hu
  by_cases hc:ad.block=w.heap.size∧ad.spot=none∧ad.off<((ZE s).map (Value.int .u8)).length
  ·right
   simp only [Snap.cells] at hu
   rw [if_pos hc] at hu
   obtain ⟨g,o,sp⟩:=ad
   obtain ⟨rfl,rfl,h3⟩:=hc
   refine ⟨.of rfl ?_,Nat.le_refl _⟩
   rw [V6 hnew]
   simp only [List.length_map,hlen] at h3
   simp only [List.getElem?_map,Qpm h3,Option.map_some,Option.some.injEq] at hu
   subst hu
   unfold bytesRow
   rw [Array.getElem?_append_left (by simpa using h3)]
   have hd3:o<s.data.size:=h3
   simp only [Array.getElem?_map,Array.getElem?_eq_getElem hd3,Option.map_some]
   rfl
  ·left
   simp only [Snap.cells] at hu
   rw [if_neg hc] at hu
   exact hu
 ·refine .d _ _ _ ?_
  have:=hrow.slice (o:=0) (cap:=cap) (g:=w.heap.size) (fun j u hu=>by rw [Nat.zero_add];exact Qpp hu) (by omega) hcm
  rw [hlen] at this
  exact this
theorem QzV {ty:Ty} {ys:List ty.den} {u:Value} (h:RelD M.F (.list ty) ys [u]) :
  ∃ ds,RowsRel M.F ty ys ds∧(∀ w,(Builtin.lenOf u).run P w=.ok ys.length w)∧∀ w':World,(∀ ad v,M.F ad=some v→Sees w' ad v)→(Builtin.firstCells ty.cells ys.length u).run P w'=.ok ds.toArray w':=by
 obtain ⟨ad,cap,hv,h1,h2,h3,h4⟩:=id h
 simp only [List.cons.injEq,and_true] at hv
 subst hv
 cases ad with
 | none =>
  have hc:=h3 rfl
  have h1':List.length (α:=ty.den) ys≤cap:=h1
  have hy:ys=[]:=List.eq_nil_of_length_eq_zero (by omega)
  subst hy
  exact ⟨[],.nil _ _,fun _=>rfl,fun w' _=>rfl⟩
 | some ad =>
  obtain ⟨_,hsp,ds,hr,hc⟩:=h.row
  obtain ⟨g,o,sp⟩:=ad
  by_cases hy:ys=[]
  ·subst hy
   refine ⟨[],.nil _ _,fun _=>rfl,fun w' _=>?_⟩
   have e0:loadCells ⟨g,o,sp⟩ (List.length (α:=ty.den) []*ty.cells)=pure #[]:=by rw [List.length_nil,Nat.zero_mul];rfl
   show (loadCells ⟨g,o,sp⟩ (List.length (α:=ty.den) []*ty.cells)).run P w'=_
   rw [e0]
   rfl
  simp only at hsp hc
  have hsp:=hsp hy
  subst hsp
  refine ⟨ds,hr,fun _=>rfl,fun w' hw'=>?_⟩
  have:=run_loadCells_list (P:=P) w' ⟨g,o,none⟩ ds (fun j v hj=>by rw [Addr.add_lit];exact (hw' _ _ (hc j v hj)).cell)
  rw [hr.len] at this
  exact this
theorem QtO {t ty e e':TypeId} {i:TypeInfo} (ht:P.underlying t=some (.slice e)) (hi:P.info? e=some i) {g sLen sCap m:Nat} {cur:Array Value} (hg:w.heap[g]? = some (.cells cur e' (0,0))) {u:Value} {ds:List Value}
  (hlo:(Builtin.lenOf u).run P w=.ok m w) (hf:(Builtin.firstCells i.size m u).run P w=.ok ds.toArray w) (h1:∀ x∈ds,x.oneCell'=true) (hroom:sLen+m≤sCap) (hfit:sLen*i.size+ds.length≤cur.size) :
  (Builtin.append_ #[t,t] ty #[.slice (some ⟨g,0,none⟩) sLen sCap,u]).run P w=.ok (.slice (some ⟨g,0,none⟩) (sLen+m) sCap) (w.setRow g (cur.toList.take (sLen*i.size)++ds++cur.toList.drop (sLen*i.size+ds.length)).toArray):=by
 have hst:=run_storeCells_at P g (sLen*i.size) e' ds 0 cur w hg (by simpa using hfit) h1
 simp only [Nat.add_zero] at hst
 simp [Builtin.append_,run_underlying ht,sizeOf,typeInfo,hi,hlo,hroom,hf,Addr.add_lit,hst]
theorem Qsh {t ty e e':TypeId} {i:TypeInfo} (ht:P.underlying t=some (.slice e)) (hi:P.info? e=some i) {g z0 sLen sCap m:Nat} {cur:Array Value} (hg:w.heap[g]? = some (.cells cur e' (0,0))) {u:Value} {ds:List Value}
  (hlo:(Builtin.lenOf u).run P w=.ok m w) (hf:(Builtin.firstCells i.size m u).run P w=.ok ds.toArray w) (h1:∀ x∈ds,x.oneCell'=true) (hroom:sLen+m≤sCap) (hfit:(z0+sLen)*i.size+ds.length≤cur.size) :
  (Builtin.append_ #[t,t] ty #[.slice (some ⟨g,z0*i.size,none⟩) sLen sCap,u]).run P w=.ok (.slice (some ⟨g,z0*i.size,none⟩) (sLen+m) sCap) (w.setRow g (cur.toList.take ((z0+sLen)*i.size)++ds++cur.toList.drop ((z0+sLen)*i.size+ds.length)).toArray):=by
 have hst:=run_storeCells_at P g ((z0+sLen)*i.size) e' ds 0 cur w hg (by simpa using hfit) h1
 simp only [Nat.add_zero] at hst
 rw [Nat.add_mul] at hst ⊢
 simp [Builtin.append_,run_underlying ht,sizeOf,typeInfo,hi,hlo,hroom,hf,Addr.add_lit,hst]
theorem Qmy {t ty e:TypeId} {i:TypeInfo} (ht:P.underlying t=some (.slice e)) (hi:P.info? e=some i) {ad:Addr} {sLen sCap:Nat} {u:Value}
  (hlo:(Builtin.lenOf u).run P w=.ok 0 w) (hf:(Builtin.firstCells i.size 0 u).run P w=.ok #[] w) (hroom:sLen≤sCap) :
  (Builtin.append_ #[t,t] ty #[.slice (some ad) sLen sCap,u]).run P w=.ok (.slice (some ad) sLen sCap) w:=by
 have hst:∀ a:Addr,(storeCells a []).run P w=.ok () w:=fun a=>rfl
 simp [Builtin.append_,run_underlying ht,sizeOf,typeInfo,hi,hlo,hroom,hf,hst]
theorem Rel.again (h:Rel P base w0 dp st θ M w) {k:Nat} {o:Option Reg} (hk:M.τ k=some o):Rel P base w0 dp (st.minted (some k)) θ (M.mint M.F (some k) o) w:=by
 obtain ⟨h1,h2,h3⟩:=h.tok k _ hk
 refine h.mint (.refl _) (some k) o (fun q hq=>by cases hq;exact h2) h.F (fun d s b n ad hm hb=>h.Fbox d s b n ad hm hb) (fun _ _ _ _ _=>rfl) ?_ ?_ (Nat.le_refl _) h.below (fun _ _ h=>.inl h) (fun _ _ _ _ _ _ h=>h) (fun c hc=>⟨rfl,fun a ha=>h.dpi.F hc ha,fun r hr=>by cases hr;exact h.dpi.reg hc hk⟩)
 ·intro q r hq _
  obtain ⟨_,_,q3⟩:=h.tok q _ hq
  obtain ⟨_,_,_,_,_,_,_,q6⟩:=q3 r rfl
  exact ⟨rfl,q6⟩
 ·intro r hr
  subst hr
  obtain ⟨q1,q2,q3,cur,e,q4,q5,q6⟩:=h3 r rfl
  refine ⟨q1,q2,q3,⟨cur,e,q4,q5,q6⟩,fun q r' hq hne e=>?_,fun d s b n hm=>h.tbox k r d s b n hk hm⟩
  exact hne (by rw [h.tsep q k r' r hq hk e])
theorem Qek {t ty e:TypeId} {i:TypeInfo} {z:Value} (ht:P.underlying t=some (.slice e)) (hi:P.info? e=some i) (hz:i.zero=some z) {s u:Value} {a0:Option Addr} {sLen sCap m:Nat} (hs:s=.slice a0 sLen sCap) {olds ds:List Value}
  (hlo:(Builtin.lenOf u).run P w=.ok m w) (hf:(Builtin.firstCells i.size m u).run P w.drew=.ok ds.toArray w.drew) (hfo:(Builtin.firstCells i.size sLen s).run P w.drew=.ok olds.toArray w.drew)
  (hgt:sCap<sLen+m) (h63:((sLen+m:Nat):Int)≤9223372036854775807) (hfit:Builtin.nextslicecap (sLen+m) sCap*i.bytes≤281474976710656) :
  (Builtin.append_ #[t,t] ty #[s,u]).run P w=.ok (.slice (some ⟨w.heap.size,0,none⟩) (sLen+m) (grownCap w (sLen+m) sCap e))
    (w.drew.alloc (.cells (olds.toArray++ds.toArray++Builtin.zeroCells z.cells (grownCap w (sLen+m) sCap e - (sLen+m))) e)):=by
 subst hs
 have hn:¬ (sLen+m≤sCap):=by omega
 have h63':¬ (9223372036854775807<((sLen:Int)+(m:Int))):=by omega
 have h48':¬ (281474976710656<Builtin.nextslicecap (sLen+m) sCap*i.bytes):=by omega
 simp [Builtin.append_,run_underlying ht,sizeOf,typeInfo,zeroValue,hi,hz,hlo,hn,h63',h48',Question.forced,hf,hfo,newRow,grownCap]
 congr 2
 apply Array.ext'
 simp [List.append_assoc]
theorem Qpr (h:Rel P base w0 dp st θ M w):∀ ad v,M.F ad=some v→Sees w.drew ad v:=fun ad v hv=>h.F ad v hv
theorem QfH {n:Nat} {b:Nat} (h:(n:Int)*(b:Int)≤Q4):n*b≤140737488355328:=by
 rw [Xf] at h
 have:((n*b:Nat):Int)≤140737488355328:=by rw [Int.natCast_mul];exact h
 omega
theorem Qps (h:Rel P base w0 dp st θ M w) {t ty e:TypeId} {i:TypeInfo} {z:Value} (ht:P.underlying t=some (.slice e)) (hi:P.info? e=some i) (hz:i.zero=some z) {T:Ty} (hzs:z.cells.size=T.cells)
  {xs ys:List T.den} {a0:Option Addr} {sCap:Nat} {u:Value} {olds ds:List Value} (hro:RowsRel M.F T xs olds) (hrd:RowsRel M.F T ys ds) (hlo:(Builtin.lenOf u).run P w=.ok ys.length w)
  (hf:(Builtin.firstCells i.size ys.length u).run P w.drew=.ok ds.toArray w.drew) (hfo:(Builtin.firstCells i.size xs.length (.slice a0 xs.length sCap)).run P w.drew=.ok olds.toArray w.drew) (hgt:sCap<xs.length+ys.length)
  (hb:(xs.length+ys.length)*i.bytes≤140737488355328) (hm:xs.length+ys.length≤maxLen) (spent:Option Nat) (hspent:∀ k,spent=some k→st.lv k=true) :
  ∃ u' w' M',(Builtin.append_ #[t,t] ty #[.slice a0 xs.length sCap,u]).run P w=.ok u' w'∧Rel P base w0 dp (st.minted spent) θ M' w'∧RelV M' (.own st.nt T (xs++ys)) u':=by
 have hrun:=Qek (P:=P) (w:=w) (t:=t) (ty:=ty) ht hi hz rfl hlo hf hfo hgt (by unfold maxLen at hm;omega) (growslice_fits hgt hb)
 have hge:=grownCap_ge w (xs.length+ys.length) sCap e
 have hcm:grownCap w (xs.length+ys.length) sCap e≤maxLen:=grownCap_le_maxLen w _ sCap e hm
 generalize grownCap w (xs.length+ys.length) sCap e=cap at *
 have hall:=hro.append hrd
 have hal:=hall.len
 have hnew:=h.drew.newSlice hall (olds.toArray++ds.toArray++Builtin.zeroCells z.cells (cap - (xs.length+ys.length))) e (cap:=cap) (by
   simp only [Array.size_append,List.size_toArray,size_zeroCells,hzs]
   rw [List.length_append,List.length_append] at hal
   rw [hal,← Nat.add_mul];congr 1;omega) (by
   simp only [Array.toList_append,List.append_assoc]
   rw [← List.append_assoc]
   exact List.take_left) (by simpa using hge) hcm spent hspent
 refine ⟨_,_,_,hrun,hnew.1,?_⟩
 have hfin:=hnew.2
 have hl:(xs++ys).length=xs.length+ys.length:=List.length_append
 rw [← hl]
 exact hfin
theorem RowsRel.pre {F:Snap} {ty:Ty} {xs:List ty.den} {cs:List Value} (h:RowsRel F ty xs cs) (rest:List Value):∀ (i:Nat) x,xs[i]? = some x→RelD F ty x (((cs++rest).drop (i*ty.cells)).take ty.cells):=by
 intro i x hx
 have hi:i<xs.length:=(List.getElem?_eq_some_iff.1 hx).1
 have hl:=h.len
 have hle:i*ty.cells+ty.cells≤xs.length*ty.cells:=by rw [← Nat.succ_mul];exact Nat.mul_le_mul_right _ hi
 rw [List.drop_append_of_le_length (by omega),List.take_append_of_le_length (by rw [List.length_drop];omega)]
 exact h.at_ i x hx
theorem QrN {F:Snap} {ty:Ty} {xs:List ty.den} {l:List Value} (h:∀ (i:Nat) x,xs[i]? = some x→RelD F ty x ((l.drop (i*ty.cells)).take ty.cells)) (hl:xs.length*ty.cells≤l.length):RowsRel F ty xs (l.take (xs.length*ty.cells)):=by
 refine ⟨by rw [List.length_take];omega,fun j y hy=>?_⟩
 have hj:j<xs.length:=(List.getElem?_eq_some_iff.1 hy).1
 have hjf:j*ty.cells+ty.cells≤xs.length*ty.cells:=by rw [← Nat.succ_mul];exact Nat.mul_le_mul_right _ hj
 have:=h j y hy
 rwa [List.drop_take,List.take_take,Nat.min_eq_left (by omega)]
theorem QkY (st:St) (spent:Option Nat):(st.minted spent).lv st.nt=true:=by
 cases spent with
 | none=>exact GG _ _ _
 | some k=>exact GG _ _ _
theorem Rel.newRaw (h:Rel P base w0 dp st θ M w) {ty:Ty} {xs:List ty.den} {cs:List Value} (hrow:RowsRel M.F ty xs cs) (cur:Array Value) (e:TypeId) {cap:Nat} (hcur:cur.size=cap*ty.cells) {rest:List Value} (hpre:cur.toList=cs++rest)
  (hc:xs.length≤cap) (hm:cap≤maxLen) (spent:Option Nat) (hspent:∀ k,spent=some k→st.lv k=true) :
  Rel P base w0 dp ((st.minted spent).setR st.nt (some ⟨ty,xs⟩)) θ (M.mint M.F spent (some ⟨w.heap.size,cap,xs.length,ty.cells⟩)) (w.alloc (.cells cur e)) ∧
   RelV (M.mint M.F spent (some ⟨w.heap.size,cap,xs.length,ty.cells⟩)) (.raw st.nt) (.slice (some ⟨w.heap.size,0,none⟩) xs.length cap):=by
 have hnew:=heap_alloc_new w (.cells cur e)
 have hold:∀ k,k<w.heap.size→(w.alloc (.cells cur e)).heap[k]? = w.heap[k]?:=fun k hk=>heap_alloc_old w _ k hk
 have hFg:∀ ad:Addr,ad.block=w.heap.size→M.F ad=none:=by
  intro ad hb
  cases hu:M.F ad with
  | none=>rfl
  | some u=>have:=QtN h hu;omega
 have hmint:=h.mint (w':=w.alloc (.cells cur e)) (.refl _) spent (some ⟨w.heap.size,cap,xs.length,ty.cells⟩) hspent
  (fun ad u hu=>by
   have:=h.F ad u hu
   exact this.block (hold _ (QtN h hu)))
  (fun d s b n ad hm hb=>h.Fbox d s b n ad hm hb) (fun d s b n hm=>hold b (h.box_lt hm))
  (fun k r hk _=>by
   obtain ⟨_,_,h3⟩:=h.tok k _ hk
   obtain ⟨_,_,_,cur',e',k4,_,k6⟩:=h3 r rfl
   exact ⟨hold _ (Gn k4),k6⟩)
  (fun r hr=>by
   cases hr
   refine ⟨.inl h.hb,hc,hm,⟨cur,e,hnew,hcur,fun ad hb _=>hFg ad hb⟩,?_,?_⟩
   ·intro k r' hk _
    obtain ⟨_,_,h3⟩:=h.tok k _ hk
    obtain ⟨_,_,_,cur',e',k4,_⟩:=h3 r' rfl
    have:=Gn k4
    simp only;omega
   ·intro d s b n hm
    have:=h.box_lt hm
    simp only;omega)
  (by simp) (h.below.alloc h.hb _) (fun _ _ h=>.inl h) (fun _ _ _ _ _ _ h=>h) (fun c hc=>by
   have hlt:=h.dpi.lt hc
   exact ⟨hold c hlt,fun a ha=>h.dpi.F hc ha,fun r hr=>by cases hr;simp only;omega⟩)
 have hτ:(M.mint M.F spent (some ⟨w.heap.size,cap,xs.length,ty.cells⟩)).τ st.nt=some (some ⟨w.heap.size,cap,xs.length,ty.cells⟩):=by
  simp only [Me.mint];rw [if_pos h.N.symm]
 refine ⟨hmint.setR ⟨QkY st spent,fun hh=>(by rw [hτ] at hh;cases hh),fun reg hr=>?_⟩,.raw _ _ (by simp only [Me.mint];rw [h.N];omega) fun o ho=>?_⟩
 ·rw [hτ] at hr
  cases hr
  refine ⟨rfl,rfl,fun ad hb=>hFg ad hb,cur,e,hnew,?_⟩
  rw [hpre]
  exact hrow.pre rest
 ·rw [hτ] at ho
  cases ho
  rfl
theorem Rel.growRaw (h:Rel P base w0 dp st θ M w) {ty:Ty} {xs ys:List ty.den} {ds:List Value} {k:Nat} {reg:Reg} (hk:M.τ k=some (some reg)) (hrw:st.rw k=some ⟨ty,xs⟩) (hys:RowsRel M.F ty ys ds) (hroom:xs.length+ys.length≤reg.cap)
  {cur:Array Value} {e:TypeId} (hg:w.heap[reg.g]? = some (.cells cur e (0,0))) :
  Rel P base w0 dp ((st.minted (some k)).setR st.nt (some ⟨ty,xs++ys⟩)) θ (M.mint M.F (some k) (some ⟨reg.g,reg.cap,(xs++ys).length,ty.cells⟩)) (w.setRow reg.g (cur.toList.take (xs.length*ty.cells)++ds++cur.toList.drop (xs.length*ty.cells+ds.length)).toArray) ∧
   RelV (M.mint M.F (some k) (some ⟨reg.g,reg.cap,(xs++ys).length,ty.cells⟩)) (.raw st.nt) (.slice (some ⟨reg.g,0,none⟩) (xs.length+ys.length) reg.cap):=by
 obtain ⟨h1,h2,h3⟩:=h.tok k _ hk
 obtain ⟨k1,k2,k3,cur',e',k4,k5,k6⟩:=h3 reg rfl
 obtain ⟨_,_,r3⟩:=h.rw k _ hrw
 obtain ⟨r4,r5,r6,cur'',e'',r7,r8⟩:=r3 reg hk
 rw [hg] at k4 r7
 cases k4;cases r7
 simp only at r4 r5 r8
 have hdl:=hys.len
 have hsz:cur.size=reg.cap*ty.cells:=by rw [k5,r5]
 have hfit:xs.length*ty.cells+ds.length≤cur.size:=by
  rw [hsz,hdl,← Nat.add_mul];exact Nat.mul_le_mul_right _ hroom
 have hcl:cur.toList.length=cur.size:=Array.length_toList
 have hrows:=QrN (xs:=xs) (ty:=ty) r8 (by omega)
 have hall:=hrows.append hys
 have hblk:=Ub (w:=w) (cs:=(cur.toList.take (xs.length*ty.cells)++ds++cur.toList.drop (xs.length*ty.cells+ds.length)).toArray) hg
 have hnew:(w.setRow reg.g (cur.toList.take (xs.length*ty.cells)++ds++cur.toList.drop (xs.length*ty.cells+ds.length)).toArray).heap[reg.g]? = some (.cells (cur.toList.take (xs.length*ty.cells)++ds++cur.toList.drop (xs.length*ty.cells+ds.length)).toArray e (0,0)):=by
  rw [hblk,if_pos rfl]
 have hsize:(cur.toList.take (xs.length*ty.cells)++ds++cur.toList.drop (xs.length*ty.cells+ds.length)).toArray.size=reg.cap*ty.cells:=by
  rw [← hsz];simp;omega
 have hFg:=r6
 have hmint:=h.mint (w':=w.setRow reg.g (cur.toList.take (xs.length*ty.cells)++ds++cur.toList.drop (xs.length*ty.cells+ds.length)).toArray) (.refl _) (some k) (some ⟨reg.g,reg.cap,(xs++ys).length,ty.cells⟩) (fun k' hk'=>by cases hk';exact h2)
  (fun ad u hu=>by
   have h0:=h.F ad u hu
   have hb:ad.block≠reg.g:=fun e=>by rw [hFg ad e] at hu;cases hu
   exact h0.block (by rw [hblk,if_neg hb]))
  (fun d s b n ad hm hb=>h.Fbox d s b n ad hm hb)
  (fun d s b n hm=>by
   have hne:=h.tbox k reg d s b n hk hm
   rw [hblk,if_neg (fun e=>hne e.symm)])
  (fun k' r hk' hne=>by
   have hgg:r.g≠reg.g:=fun e=>hne (by rw [h.tsep k' k r reg hk' hk e])
   obtain ⟨_,_,h3'⟩:=h.tok k' _ hk'
   obtain ⟨_,_,_,_,_,_,_,q6⟩:=h3' r rfl
   exact ⟨by rw [hblk,if_neg hgg],q6⟩)
  (fun r hr=>by
   cases hr
   refine ⟨k1,by simp;exact hroom,k3,⟨_,e,hnew,hsize,fun ad hb _=>hFg ad hb⟩,?_,?_⟩
   ·intro k' r' hk' hne e
    exact hne (by rw [h.tsep k' k r' reg hk' hk e])
   ·intro d s b n hm
    exact h.tbox k reg d s b n hk hm)
  (by simp) (BelowB.setRow h.below k1 _) (fun _ _ h=>.inl h) (fun _ _ _ _ _ _ h=>h) (fun c hc=>⟨by rw [hblk,if_neg (fun e=>h.dpi.reg hc hk e.symm)],fun a ha=>h.dpi.F hc ha,fun r hr=>by cases hr;show reg.g≠c;exact h.dpi.reg hc hk⟩)
 have hτ:(M.mint M.F (some k) (some ⟨reg.g,reg.cap,(xs++ys).length,ty.cells⟩)).τ st.nt=some (some ⟨reg.g,reg.cap,(xs++ys).length,ty.cells⟩):=by
  simp only [Me.mint];rw [if_pos h.N.symm]
 refine ⟨hmint.setR ⟨QkY st _,fun hh=>(by rw [hτ] at hh;cases hh),fun reg' hr=>?_⟩,.raw _ _ (by simp only [Me.mint];rw [h.N];omega) fun o ho=>?_⟩
 ·rw [hτ] at hr
  cases hr
  exact ⟨rfl,rfl,fun ad hb=>hFg ad hb,_,e,hnew,hall.pre _⟩
 ·rw [hτ] at ho
  cases ho
  simp [Qr7]
theorem Rel.newNilRaw (h:Rel P base w0 dp st θ M w) (ty:Ty) (spent:Option Nat) (hspent:∀ k,spent=some k→st.lv k=true) :
  Rel P base w0 dp ((st.minted spent).setR st.nt (some ⟨ty,[]⟩)) θ (M.mint M.F spent none) w∧RelV (M.mint M.F spent none) (.raw st.nt) (.slice none 0 0):=by
 have hτ:(M.mint M.F spent none).τ st.nt=some none:=by simp only [Me.mint];rw [if_pos h.N.symm]
 refine ⟨(h.newNil ty spent hspent).1.setR ⟨QkY st _,fun _=>rfl,fun reg' hr=>?_⟩,.raw _ _ (by simp only [Me.mint];rw [h.N];omega) fun o ho=>?_⟩
 ·rw [hτ] at hr;cases hr
 ·rw [hτ] at ho
  cases ho
  rfl
theorem Qq8 (h:Rel P base w0 dp st θ M w) {t:TypeId} {len:Nat} {parts:List (Nat × V)} {vparts:Array (Nat × Value)} {K:V→Z9 R} {r:R} (hs:Qpb P st t len parts K=some r) (hlen:parts.length=vparts.size)
  (hp:∀ (j:Nat) p q,parts[j]? = some p→vparts.toList[j]? = some q→p.1=q.1∧RelV M p.2 q.2):TurnsB P base w0 dp θ w K r (Instr.buildSlice t len vparts):=by
 unfold Qpb at hs
 split at hs
 case h_2=>cases hs
 rename_i e he
 have ht:=Gm he
 split at hs
 case h_2=>cases hs
 rename_i ty hty
 split at hs
 case h_2=>cases hs
 rename_i z hz
 obtain ⟨h0,hs2⟩:=Qn hs
 clear hs
 simp only [Bool.and_eq_true] at h0
 have hbig:=Nat.le_of_ble_eq_true h0.1
 have hpos:0<ty.cells:=Nat.le_of_ble_eq_true h0.2
 split at hs2
 case h_2=>cases hs2
 rename_i xs hxs
 obtain ⟨i,v,hi,hv,hzr,hzs⟩:=Qej (M:=M) hz
 obtain ⟨_,_,_,_,i',hi',hsz⟩:=JP hty
 rw [hi] at hi'
 cases hi'
 have hmade:RowsRel M.F ty (List.replicate len z) (madeCells v.cells (len*ty.cells)).toList:=by
  rw [EM _ _ _ hzs]
  exact Wm hzr len
 obtain ⟨cells',k1,k2,k3⟩:=Qjw parts vparts.toList _ xs _ hxs (by simpa using hlen) hp hmade
 have hxl:xs.length=len:=by simpa using k3
 have hcs:cells'.size=len*ty.cells:=by have:=k2.len;rw [hxl] at this;simpa using this
 have hnew:=h.newRaw (w:=w) k2 cells' e (cap:=len) hcs (rest:=[]) (by rw [List.append_nil]) (by omega) (by
  have:len≤len*ty.cells:=Nat.le_mul_of_pos_right _ hpos
  unfold maxLen;omega) none (fun k hk=>by cases hk)
 refine ⟨_,_,.slice (some ⟨w.heap.size,0,none⟩) len len,_,_,hs2,?_,hnew.1,by have:=hnew.2;rw [hxl] at this ⊢;exact this,rfl,(BelowN.refl _ _).alloc (Nat.le_refl _) _⟩
 have hbig':¬ (len*ty.cells > 2 ^ 24):=by omega
 unfold Instr.buildSlice
 simp only [Sem.run_bind,run_underlying ht,Result.andThen_ok,Zy hi,hsz]
 rw [if_neg hbig']
 have hrow:(newRow e cells').run P w=.ok ⟨w.heap.size,0,none⟩ (w.alloc (.cells cells' e)):=by
  simp [newRow,newObj,Sem.run]
 have hz0:∀ y:Array Value,len*ty.cells=0→(Array.range (len*ty.cells)).map (fun k=>y[k % y.size]!)=madeCells v.cells (len*ty.cells):=by
  intro y h0
  unfold madeCells
  rw [h0,Array.range_zero']
  simp
 by_cases h0:len*ty.cells=0
 ·rw [if_pos h0]
  simp only [Sem.run_bind,Sem.run_pure,Result.andThen_ok]
  rw [hz0 #[] h0,k1]
  simp only [Sem.run_bind,hrow,Result.andThen_ok,Sem.run_pure]
 ·rw [if_neg h0]
  simp only [Sem.run_bind,QcH hi hv,Result.andThen_ok,Sem.run_pure]
  have k1':=k1
  unfold madeCells at k1'
  rw [k1']
  simp only [Sem.run_bind,hrow,Result.andThen_ok,Sem.run_pure]
theorem Qun (h:Rel P base w0 dp st θ M w) {t ty e:TypeId} {i:TypeInfo} {z:Value} (ht:P.underlying t=some (.slice e)) (hi:P.info? e=some i) (hz:i.zero=some z) {T:Ty} (hzs:z.cells.size=T.cells)
  {xs ys:List T.den} {a0:Option Addr} {sCap:Nat} {u:Value} {olds ds:List Value} (hro:RowsRel M.F T xs olds) (hrd:RowsRel M.F T ys ds) (hlo:(Builtin.lenOf u).run P w=.ok ys.length w)
  (hf:(Builtin.firstCells i.size ys.length u).run P w.drew=.ok ds.toArray w.drew) (hfo:(Builtin.firstCells i.size xs.length (.slice a0 xs.length sCap)).run P w.drew=.ok olds.toArray w.drew) (hgt:sCap<xs.length+ys.length)
  (hb:(xs.length+ys.length)*i.bytes≤140737488355328) (hm:xs.length+ys.length≤maxLen) (spent:Option Nat) (hspent:∀ k,spent=some k→st.lv k=true) :
  ∃ u' w' M',(Builtin.append_ #[t,t] ty #[.slice a0 xs.length sCap,u]).run P w=.ok u' w'∧Rel P base w0 dp ((st.minted spent).setR st.nt (some ⟨T,xs++ys⟩)) θ M' w'∧RelV M' (.raw st.nt) u':=by
 have hrun:=Qek (P:=P) (w:=w) (t:=t) (ty:=ty) ht hi hz rfl hlo hf hfo hgt (by unfold maxLen at hm;omega) (growslice_fits hgt hb)
 have hge:=grownCap_ge w (xs.length+ys.length) sCap e
 have hcm:grownCap w (xs.length+ys.length) sCap e≤maxLen:=grownCap_le_maxLen w _ sCap e hm
 generalize grownCap w (xs.length+ys.length) sCap e=cap at *
 have hall:=hro.append hrd
 have hal:=hall.len
 have hnew:=h.drew.newRaw hall (olds.toArray++ds.toArray++Builtin.zeroCells z.cells (cap - (xs.length+ys.length))) e (cap:=cap) (by
   simp only [Array.size_append,List.size_toArray,size_zeroCells,hzs]
   rw [List.length_append,List.length_append] at hal
   rw [hal,← Nat.add_mul];congr 1;omega) (rest:=(Builtin.zeroCells z.cells (cap - (xs.length+ys.length))).toList) (by simp only [Array.toList_append]) (by simpa using hge) hcm spent hspent
 refine ⟨_,_,_,hrun,hnew.1,?_⟩
 have hfin:=hnew.2
 have hl:(xs++ys).length=xs.length+ys.length:=List.length_append
 rw [← hl]
 exact hfin
theorem QtP (h:Rel P base w0 dp st θ M w) {t ty:TypeId} {s x:V} {vs vx:Value} {K:V→Z9 R} {r:R} (hs:QkV P st t s x K=some r) (hrs:RelV M s vs) (hrx:RelV M x vx) :
  Turns P base w0 dp θ w K r (Builtin.append_ #[t,t] ty #[vs,vx]):=by
 unfold QkV at hs
 split at hs
 case h_2=>cases hs
 rename_i e he
 have ht:=Gm he
 split at hs
 case h_2=>cases hs
 rename_i T hT
 split at hs
 case h_2=>cases hs
 rename_i z hz
 obtain ⟨h0,hs2⟩:=Qjq hs
 clear hs
 have hpos:0<T.cells:=by
  rcases Nat.eq_zero_or_pos T.cells with h1 | h1
  ·rw [h1] at h0;cases h0
  ·exact h1
 split at hs2
 case h_2=>cases hs2
 rename_i ys hys
 obtain ⟨i,v,hi,hv,hzr,hzs⟩:=Qej (M:=M) hz
 obtain ⟨_,_,_,_,i',hi',hsz⟩:=JP hT
 rw [hi] at hi'
 cases hi'
 have hby:P.bytesOf e=i.bytes:=by simp [Program.bytesOf,hi]
 have hD:=X9 hys hrx
 obtain ⟨ds,hrd,hlo,hfc⟩:=QzV (P:=P) hD
 have hdl:=hrd.len
 split at hs2
 ·
  cases hrs with
  | nils =>
   obtain ⟨h1,hs3⟩:=Qn hs2
   simp only [Bool.and_eq_true,decide_eq_true_eq] at h1
   rw [hby] at h1
   have hroom:=QfH h1.1
   have hmax:ys.length≤maxLen:=by have:=h1.2;unfold maxLen;rw [Xf] at this;omega
   by_cases hm:ys.length=0
   ·have hy:ys=[]:=List.eq_nil_of_length_eq_zero hm
    subst hy
    have hn:=h.newNil T none (fun k hk=>by cases hk)
    refine ⟨_,_,.slice none 0 0,w,_,hs3,?_,hn.1,hn.2,rfl⟩
    have hds:ds=[]:=List.eq_nil_of_length_eq_zero (by rw [hdl];simp)
    subst hds
    have:=hfc w (fun ad v hv=>h.F ad v hv)
    simp only [List.length_nil] at this
    simp [Builtin.append_,run_underlying ht,sizeOf,typeInfo,hi,hlo w,hsz,this]
   ·obtain ⟨u',w',M',k1,k2,k3⟩:=Qps (ty:=ty) (xs:=[]) (a0:=none) (sCap:=0) h ht hi hv hzs (.nil _ _) hrd (hlo w) (by rw [hsz];exact hfc _ (Qpr h)) (by rw [hsz];rfl) (by simp;omega) (by simpa using hroom) (by simpa using hmax) none (fun k hk=>by cases hk)
    rw [List.nil_append] at k3
    exact ⟨_,_,u',w',M',hs3,k1,k2,k3,rfl⟩
 ·
  rename_i tok T' xs'
  split at hs2
  case h_2=>cases hs2
  rename_i xs hxs
  obtain ⟨hlv,hs3⟩:=Qn hs2
  obtain ⟨h1,hs4⟩:=Qn hs3
  clear hs2 hs3
  simp only [Bool.and_eq_true,decide_eq_true_eq] at h1
  rw [hby] at h1
  obtain ⟨hxd,hN,hgrow⟩:=hrs.own_inv
  have hcells:T'=T:=(castL?_eq hxs).1
  have hlenx:=castL?_len hxs
  have hxd:=castL?_rel hxs hxd
  rw [← hlenx] at hgrow
  rw [hcells] at hgrow
  clear hcells hxs hrs
  have hroom:(xs.length+ys.length)*i.bytes≤140737488355328:=QfH (by have:=h1.1;rw [Int.natCast_add];exact this)
  have hmax:xs.length+ys.length≤maxLen:=by have:=h1.2;unfold maxLen;rw [Xf] at this;omega
  obtain ⟨o,ho⟩:=h.live tok hlv
  have hg:=hgrow o ho
  cases o with
  | none =>
   obtain ⟨rfl,hx0⟩:=hg
   have hx0:xs=[]:=List.eq_nil_of_length_eq_zero hx0
   subst hx0
   rw [List.nil_append] at hs4
   by_cases hm:ys.length=0
   ·have hy:ys=[]:=List.eq_nil_of_length_eq_zero hm
    subst hy
    have hn:=h.newNil T (some tok) (fun k hk=>by cases hk;exact hlv)
    refine ⟨_,_,.slice none 0 0,w,_,hs4,?_,hn.1,hn.2,rfl⟩
    have hds:ds=[]:=List.eq_nil_of_length_eq_zero (by rw [hdl];simp)
    subst hds
    have:=hfc w (fun ad v hv=>h.F ad v hv)
    simp only [List.length_nil] at this
    simp [Builtin.append_,run_underlying ht,sizeOf,typeInfo,hi,hlo w,hsz,this]
   ·obtain ⟨u',w',M',k1,k2,k3⟩:=Qps (ty:=ty) (xs:=[]) (a0:=none) (sCap:=0) h ht hi hv hzs (.nil _ _) hrd (hlo w) (by rw [hsz];exact hfc _ (Qpr h)) (by rw [hsz];rfl) (by simp;omega) hroom hmax (some tok) (fun k hk=>by cases hk;exact hlv)
    rw [List.nil_append] at k3
    exact ⟨_,_,u',w',M',hs4,k1,k2,k3,rfl⟩
  | some reg =>
   obtain ⟨z0,ad,hvs,had,hn,hz0,hsz'⟩:=hg
   obtain ⟨_,_,h3⟩:=h.tok tok _ ho
   obtain ⟨_,q2,_,cur,e',k4,k5,_⟩:=h3 reg rfl
   by_cases hr:xs.length+ys.length≤reg.cap - z0
   ·by_cases hzc:z0<reg.cap
    ·have had:=had hzc
     subst had
     have hrun:=Qsh (P:=P) (ty:=ty) ht hi k4 (u:=vx) (z0:=z0) (sLen:=xs.length) (sCap:=reg.cap - z0) (hlo w) (by rw [hsz];exact hfc w (fun ad v hv=>h.F ad v hv)) hrd.ones hr (by
      rw [hsz,hdl,← Nat.add_mul,k5,hsz'];exact Nat.mul_le_mul_right _ (by omega))
     obtain ⟨F',q1,q2⟩:=h.growIn ho hsz' hn hz0 hvs hxd hrd hr k4
     rw [hsz] at hrun
     subst hvs
     exact ⟨_,_,_,_,_,hs4,hrun,q1,q2,rfl⟩
    ·have hy:ys=[]:=List.eq_nil_of_length_eq_zero (by omega)
     subst hy
     have hds:ds=[]:=List.eq_nil_of_length_eq_zero (by rw [hdl];simp)
     subst hds
     have hrun:=Qmy (P:=P) (w:=w) (ty:=ty) ht hi (ad:=ad) (sLen:=xs.length) (sCap:=reg.cap - z0) (hlo w) (by
      have:=hfc w (fun ad v hv=>h.F ad v hv)
      rw [hsz];exact this) (by omega)
     rw [List.append_nil] at hs4
     subst hvs
     refine ⟨_,_,_,_,_,hs4,hrun,h.again ho,.own _ _ _ _ hxd (by simp only [Me.mint];rw [h.N];omega) fun o' ho'=>?_,rfl⟩
     simp only [Me.mint] at ho'
     rw [if_pos h.N.symm] at ho'
     cases ho'
     exact ⟨z0,ad,rfl,had,hn,hz0,hsz'⟩
   ·subst hvs
    obtain ⟨_,hsp,olds,hro,hoc⟩:=hxd.row
    have hfo:(Builtin.firstCells i.size xs.length (.slice (some ad) xs.length (reg.cap - z0))).run P w.drew=.ok olds.toArray w.drew:=by
     by_cases hx0:xs=[]
     ·subst hx0
      have holds:olds=[]:=List.eq_nil_of_length_eq_zero (by rw [hro.len];simp)
      subst holds
      have e0:loadCells ad (List.length (α:=T.den) []*i.size)=pure #[]:=by rw [List.length_nil,Nat.zero_mul];rfl
      show (loadCells ad (List.length (α:=T.den) []*i.size)).run P w.drew=_
      rw [e0]
      rfl
     ·obtain ⟨g,o2,sp⟩:=ad
      have hsp:=hsp hx0
      simp only at hsp hoc
      subst hsp
      have:=run_loadCells_list (P:=P) w.drew ⟨g,o2,none⟩ olds (fun j v hj=>by rw [Addr.add_lit];exact (Qpr h _ _ (hoc j v hj)).cell)
      rw [hro.len,← hsz] at this
      exact this
    obtain ⟨u',w',M',k1,k2,k3⟩:=Qps (ty:=ty) (a0:=some ad) (sCap:=reg.cap - z0) h ht hi hv hzs hro hrd (hlo w) (by rw [hsz];exact hfc _ (Qpr h)) hfo (by omega) hroom hmax (some tok) (fun k hk=>by cases hk;exact hlv)
    exact ⟨_,_,u',w',M',hs4,k1,k2,k3,rfl⟩
 ·
  rename_i tok
  split at hs2
  case h_2=>cases hs2
  rename_i T' xs' hb
  split at hs2
  case h_2=>cases hs2
  rename_i xs hxs
  obtain ⟨hlv,hs3⟩:=Qn hs2
  obtain ⟨h1,hs4⟩:=Qn hs3
  clear hs2 hs3
  simp only [Bool.and_eq_true,decide_eq_true_eq] at h1
  rw [hby] at h1
  obtain ⟨e0,e1⟩:=castL?_eq hxs
  clear hxs
  subst e0
  obtain rfl:=show xs=xs' from e1
  obtain ⟨hN,hraw⟩:=hrs.raw_inv
  have hroom:(xs.length+ys.length)*i.bytes≤140737488355328:=QfH (by have:=h1.1;rw [Int.natCast_add];exact this)
  have hmax:xs.length+ys.length≤maxLen:=by have:=h1.2;unfold maxLen;rw [Xf] at this;omega
  obtain ⟨o,ho⟩:=h.live tok hlv
  have hg:=hraw o ho
  obtain ⟨_,r2,r3⟩:=h.rw tok _ hb
  cases o with
  | none =>
   obtain rfl:=show vs=_ from hg
   obtain rfl:=show xs=[] from r2 ho
   rw [List.nil_append] at hs4
   by_cases hm:ys.length=0
   ·have hy:ys=[]:=List.eq_nil_of_length_eq_zero hm
    subst hy
    have hn:=h.newNilRaw T' (some tok) (fun k hk=>by cases hk;exact hlv)
    refine ⟨_,_,.slice none 0 0,w,_,hs4,?_,hn.1,hn.2,rfl⟩
    have hds:ds=[]:=List.eq_nil_of_length_eq_zero (by rw [hdl];simp)
    subst hds
    have:=hfc w (fun ad v hv=>h.F ad v hv)
    simp only [List.length_nil] at this
    simp [Builtin.append_,run_underlying ht,sizeOf,typeInfo,hi,hlo w,hsz,this]
   ·obtain ⟨u',w',M',k1,k2,k3⟩:=Qun (ty:=ty) (xs:=[]) (a0:=none) (sCap:=0) h ht hi hv hzs (.nil _ _) hrd (hlo w) (by rw [hsz];exact hfc _ (Qpr h)) (by rw [hsz];rfl) (by simp;omega) hroom hmax (some tok) (fun k hk=>by cases hk;exact hlv)
    rw [List.nil_append] at k2
    exact ⟨_,_,u',w',M',hs4,k1,k2,k3,rfl⟩
  | some reg =>
   obtain ⟨hn,hsz',r6,cur,e',k4,k8⟩:=r3 reg ho
   obtain ⟨_,_,h3⟩:=h.tok tok _ ho
   obtain ⟨_,k2,_,cur',e'',k4',k5,_⟩:=h3 reg rfl
   rw [k4] at k4'
   cases k4'
   simp only at hn hsz' k8
   obtain rfl:=show vs=_ from hg
   rw [hn]
   by_cases hr:xs.length+ys.length≤reg.cap
   ·have hrun:=QtO (P:=P) (ty:=ty) ht hi k4 (u:=vx) (sLen:=xs.length) (sCap:=reg.cap) (hlo w) (by rw [hsz];exact hfc w (fun ad v hv=>h.F ad v hv)) hrd.ones hr (by
     rw [hsz,hdl,← Nat.add_mul,k5,hsz'];exact Nat.mul_le_mul_right _ hr)
    have hq:=h.growRaw ho hb hrd hr k4
    rw [hsz] at hrun
    exact ⟨_,_,_,_,_,hs4,hrun,hq.1,hq.2,rfl⟩
   ·have hall:xs.length*T'.cells≤cur.toList.length:=by
     have hcl:cur.toList.length=cur.size:=Array.length_toList
     rw [hcl,k5,hsz'];exact Nat.mul_le_mul_right _ (by omega)
    have hro:=QrN k8 hall
    have hfo:(Builtin.firstCells i.size xs.length (.slice (some ⟨reg.g,0,none⟩) xs.length reg.cap)).run P w.drew=.ok (cur.toList.take (xs.length*T'.cells)).toArray w.drew:=by
     have:=run_loadCells_list (P:=P) w.drew ⟨reg.g,0,none⟩ (cur.toList.take (xs.length*T'.cells)) (fun j v hj=>by
      rw [Addr.add_lit,Nat.zero_add,show w.drew.cell? ⟨reg.g,j,none⟩=w.cell? ⟨reg.g,j,none⟩ from rfl,V6 k4]
      rw [List.getElem?_take] at hj
      split at hj
      ·simpa using hj
      ·cases hj)
     rw [hro.len] at this
     rw [hsz]
     exact this
    obtain ⟨u',w',M',k1,k2,k3⟩:=Qun (ty:=ty) (a0:=some ⟨reg.g,0,none⟩) (sCap:=reg.cap) h ht hi hv hzs hro hrd (hlo w) (by rw [hsz];exact hfc _ (Qpr h)) hfo (by omega) hroom hmax (some tok) (fun k hk=>by cases hk;exact hlv)
    exact ⟨_,_,u',w',M',hs4,k1,k2,k3,rfl⟩
 ·cases hs2
end
end Go.Ab
